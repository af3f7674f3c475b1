/- heap.Heap[int, float32]: down. -/
import Derived.Test.YtgihncjllelonaaGreatHt18
import Derived.Test.YtgihncjllelonaaGreatHt5
import Derived.Deep.AppendLies
import Derived.Lib.SliceRun
namespace Go.Proofs.YtgihncjllelonaaGreat.Hf
open Go Go.RowKit Go.Proofs.YtgihncjllelonaaGreat.Mem Go.Proofs.YtgihncjllelonaaGreat.Hn Go.Proofs.YtgihncjllelonaaGreatW.PrintWords Go.Proofs.YtgihncjllelonaaGreatW.PrintLast
attribute [local go_sem ↓] Go.wp_at_zero Go.wp_at_succ
attribute [local go_sem] Go.Proofs.YtgihncjllelonaaGreat.Wt.run_store_float
set_option linter.unusedSimpArgs false
set_option linter.unusedVariables false

def lstN (its : List Itm) (i : Nat) : Nat → Nat
  | 0 => i
  | j + 1 => if 2 * i + 1 + j < its.length ∧ aheadI (its.getD (2 * i + 1 + j) z) (its.getD (lstN its i j) z) = true then 2 * i + 1 + j else lstN its i j
theorem lstN_two (its : List Itm) (i : Nat) : lstN its i 2 = leastS its i := rfl
theorem lstN_lt {its : List Itm} {i : Nat} (h : i < its.length) : ∀ j, lstN its i j < its.length
  | 0 => h
  | j + 1 => by
    have := lstN_lt h j
    rw [lstN]
    split <;> omega

def DownRel (w : World) (base hb mb n : Nat) (iv : Value) (came : Int) (R : List Itm) (k : Nat) (v : Value) (w' : World) : Prop :=
  ∃ its i, its.length = n ∧ downS k its i = some R ∧ v = .int .i64 ((i : Nat) : Int) ∧ Hp w' base hb mb iv its came ∧ HK hb mb iv w w'

def KidRel (w : World) (base hb mb : Nat) (iv : Value) (came : Int) (its : List Itm) (i : Nat) (k : Nat) (v4 v15 : Value) (w' : World) : Prop :=
  ∃ j : Nat, j + k = 2 ∧ v15 = .int .i64 (j : Int) ∧ v4 = .int .i64 ((lstN its i j : Nat) : Int) ∧ Hp w' base hb mb iv its came ∧ HK hb mb iv w w'

theorem idx0 (u v : Value) (w : World) : (Instr.index 258 (.agg #[u, v]) (.int .i64 0)).run Tryz.prog w = .ok u w := by kernel_rfl
theorem idx1 (u v : Value) (w : World) : (Instr.index 258 (.agg #[u, v]) (.int .i64 1)).run Tryz.prog w = .ok v w := by kernel_rfl

set_option maxHeartbeats 4000000 in
set_option maxRecDepth 100000 in
theorem down_calls (w : World) (base hb mb i k : Nat) (iv : Value) (its R : List Itm) (came : Int) (h : Hp w base hb mb iv its came) (hR : downS k its i = some R) :
    Calls Tryz.prog 139 #[.pointer (some ⟨hb, 0, none⟩), .int .i64 (i : Int)] w fun e w' => e = .returned (.tuple #[]) ∧ Hp w' base hb mb iv R came ∧ HK hb mb iv w w' := by
  obtain ⟨A, cp, rfl⟩ := own_slice h.own
  obtain ⟨n, hn⟩ : ∃ n, its.length = n := ⟨_, rfl⟩
  rw [hn] at h ⊢
  have HS := Lib.hid (And.intro hn (And.intro hR h))
  clear hR h hn
  go_enter Tryz.func139, Tryz.ntmps139
  go_wp2_with fail
  go_loopg [1] k (fun kq v1 w' => Hid (DownRel w base hb mb n (.slice A n cp) came R kq v1 w'))
  case atStart => exact Lib.hid ⟨its, i, HS.out.1, HS.out.2.1, rfl, HS.out.2.2, HK.refl _ _ _ _⟩
  case round =>
    clear HS
    obtain ⟨its, i, hn, hR, rfl, hp, hk⟩ := hrel.out
    clear hrel
    cases gk with
    | zero => simp [downS] at hR
    | succ k1 =>
      rw [downS] at hR
      by_cases hi : i < its.length ∧ its.length < 1000000
      · rw [if_pos hi] at hR
        obtain ⟨c0, hc0⟩ : ∃ c, 2 * i + 1 + 0 = c := ⟨_, rfl⟩
        obtain ⟨c1, hc1⟩ : ∃ c, 2 * i + 1 + 1 = c := ⟨_, rfl⟩
        have e1 : wrap64 (2 * (i : Int)) = 2 * (i : Int) := by unfold wrap64; omega
        have e2 : wrap64 (2 * (i : Int) + 1) = (c0 : Int) := by unfold wrap64; omega
        have e3 : wrap64 (2 * (i : Int) + 2) = (c1 : Int) := by unfold wrap64; omega
        have HP := Lib.hid hp
        have HKK := Lib.hid hk
        have HR := Lib.hid hR
        have HI := Lib.hid hi
        have HC := Lib.hid (And.intro hc0 hc1)
        have HN := Lib.hid hn
        clear hp hk hR hi hc0 hc1 hn
        go_wp2_with fail
        clear e1 e2 e3
        go_loopg [4, 15] 2 (fun kq v4 v15 w' => Hid (KidRel w base hb mb (.slice A n cp) came its i kq v4 v15 w'))
        case atStart => exact Lib.hid ⟨0, rfl, rfl, rfl, HP.out, HKK.out⟩
        case round =>
          clear HP HKK
          obtain ⟨j, hj, rfl, rfl, hp, hk⟩ := hrel.out
          clear hrel
          have d1 := hp.hat.cell 1 rfl
          have HP2 := Lib.hid hp
          have HK2 := Lib.hid hk
          clear hp hk
          match j, gk with
          | 0, gk =>
            obtain rfl : gk = 2 := by omega
            clear hj
            have hix := idx0 (.int .i64 (c0 : Int)) (.int .i64 (c1 : Int)) wr
            obtain ⟨l, hl4⟩ : ∃ l, lstN its i 0 = l := ⟨_, rfl⟩
            have hll : l < its.length := hl4 ▸ lstN_lt HI.out.1 0
            have hnx : lstN its i (0 + 1) = if c0 < its.length ∧ aheadI (its.getD c0 z) (its.getD l z) = true then c0 else l := by rw [lstN, hl4, show 2 * i + 1 + 0 = c0 from HC.out.1]
            rw [hl4]
            obtain ⟨b, hb'⟩ : ∃ b, its[l]? = some b := ⟨_, List.getElem?_eq_getElem hll⟩
            have HL4 := Lib.hid hl4
            clear hl4
            by_cases hc : c0 < its.length
            · obtain ⟨a, ha⟩ : ∃ a, its[c0]? = some a := ⟨_, List.getElem?_eq_getElem hc⟩
              rw [getD_of ha, getD_of hb'] at hnx
              have HA := Lib.hid (And.intro ha hb')
              have hcn : (c0 : Int) < (n : Int) := by have := HN.out; omega
              have HNX := Lib.hid hnx
              have HLL := Lib.hid hll
              have HCC := Lib.hid hc
              clear ha hb' hnx hll hc
              go_wp2_with fail
              refine (ahead_calls _ base hb mb c0 l (.slice A n cp) its came a b HP2.out HA.out.1 HA.out.2 (by have := HI.out.2; omega)).mono ?_
              rintro e w1 ⟨rfl, hb1⟩
              have HP3 := Lib.hid (HP2.out.below hb1)
              have HK3 := Lib.hid (HK2.out.below hb1)
              clear hb1 HP2 HK2
              by_cases hah : aheadI a b = true
              · have hq : lstN its i (0 + 1) = c0 := by rw [HNX.out, if_pos ⟨HCC.out, hah⟩]
                have HQ := Lib.hid hq
                clear hq
                go_wp2_with fail
                go_roundg 1
                case measure => omega
                case rel => exact Lib.hid ⟨0 + 1, rfl, rfl, by rw [HQ.out], HP3.out, HK3.out⟩
              · have hq : lstN its i (0 + 1) = l := by rw [HNX.out, if_neg (fun h => hah h.2)]
                have hah : aheadI a b = false := by simpa using hah
                have HQ := Lib.hid hq
                clear hq
                go_wp2_with fail
                go_roundg 1
                case measure => omega
                case rel => exact Lib.hid ⟨0 + 1, rfl, rfl, by rw [HQ.out], HP3.out, HK3.out⟩
            · have hq : lstN its i (0 + 1) = l := by rw [hnx, if_neg (fun h => hc h.1)]
              have hcn : ¬ (c0 : Int) < (n : Int) := by have := HN.out; omega
              have HQ := Lib.hid hq
              clear hq hnx hb' hll hc
              go_wp2_with fail
              go_roundg 1
              case measure => omega
              case rel => exact Lib.hid ⟨0 + 1, rfl, rfl, by rw [HQ.out], HP2.out, HK2.out⟩
          | 1, gk =>
            obtain rfl : gk = 1 := by omega
            clear hj
            have hix := idx1 (.int .i64 (c0 : Int)) (.int .i64 (c1 : Int)) wr
            obtain ⟨l, hl4⟩ : ∃ l, lstN its i 1 = l := ⟨_, rfl⟩
            have hll : l < its.length := hl4 ▸ lstN_lt HI.out.1 1
            have hnx : lstN its i (1 + 1) = if c1 < its.length ∧ aheadI (its.getD c1 z) (its.getD l z) = true then c1 else l := by rw [lstN, hl4, show 2 * i + 1 + 1 = c1 from HC.out.2]
            rw [hl4]
            obtain ⟨b, hb'⟩ : ∃ b, its[l]? = some b := ⟨_, List.getElem?_eq_getElem hll⟩
            have HL4 := Lib.hid hl4
            clear hl4
            by_cases hc : c1 < its.length
            · obtain ⟨a, ha⟩ : ∃ a, its[c1]? = some a := ⟨_, List.getElem?_eq_getElem hc⟩
              rw [getD_of ha, getD_of hb'] at hnx
              have HA := Lib.hid (And.intro ha hb')
              have hcn : (c1 : Int) < (n : Int) := by have := HN.out; omega
              have HNX := Lib.hid hnx
              have HLL := Lib.hid hll
              have HCC := Lib.hid hc
              clear ha hb' hnx hll hc
              go_wp2_with fail
              refine (ahead_calls _ base hb mb c1 l (.slice A n cp) its came a b HP2.out HA.out.1 HA.out.2 (by have := HI.out.2; omega)).mono ?_
              rintro e w1 ⟨rfl, hb1⟩
              have HP3 := Lib.hid (HP2.out.below hb1)
              have HK3 := Lib.hid (HK2.out.below hb1)
              clear hb1 HP2 HK2
              by_cases hah : aheadI a b = true
              · have hq : lstN its i (1 + 1) = c1 := by rw [HNX.out, if_pos ⟨HCC.out, hah⟩]
                have HQ := Lib.hid hq
                clear hq
                go_wp2_with fail
                go_roundg 0
                case measure => omega
                case rel => exact Lib.hid ⟨1 + 1, rfl, rfl, by rw [HQ.out], HP3.out, HK3.out⟩
              · have hq : lstN its i (1 + 1) = l := by rw [HNX.out, if_neg (fun h => hah h.2)]
                have hah : aheadI a b = false := by simpa using hah
                have HQ := Lib.hid hq
                clear hq
                go_wp2_with fail
                go_roundg 0
                case measure => omega
                case rel => exact Lib.hid ⟨1 + 1, rfl, rfl, by rw [HQ.out], HP3.out, HK3.out⟩
            · have hq : lstN its i (1 + 1) = l := by rw [hnx, if_neg (fun h => hc h.1)]
              have hcn : ¬ (c1 : Int) < (n : Int) := by have := HN.out; omega
              have HQ := Lib.hid hq
              clear hq hnx hb' hll hc
              go_wp2_with fail
              go_roundg 0
              case measure => omega
              case rel => exact Lib.hid ⟨1 + 1, rfl, rfl, by rw [HQ.out], HP2.out, HK2.out⟩
          | j + 2, gk =>
            obtain rfl : j = 0 := by omega
            obtain rfl : gk = 0 := by omega
            clear hj d1
            obtain ⟨l, hl⟩ : ∃ l, lstN its i 2 = l := ⟨_, rfl⟩
            have hl2 := hl
            rw [lstN_two] at hl2
            have hR := HR.out
            rw [hl2] at hR
            have hll : l < its.length := hl2 ▸ leastS_lt HI.out.1
            rw [show 0 + 2 = 2 from rfl, hl]
            clear hl hl2 HR
            by_cases hli : l = i
            · rw [if_pos hli] at hR
              obtain rfl := Option.some.inj hR
              have e5 : ((l : Int) == (i : Int)) = true := by simp [hli]
              have e6 : (l : Int) = (i : Int) := by rw [hli]
              clear hR hll hli
              go_wp2_with fail
              first | go_end0 | ((try simp only [Exit.inBlock, Exit.then]); refine bodyPost_ret (results_none rfl _ _ _) rfl ?_)
              exact ⟨rfl, HP2.out, HK2.out⟩
            · rw [if_neg hli] at hR
              have e5 : ((l : Int) == (i : Int)) = false := beq_eq_false_iff_ne.2 (by omega)
              have e6 : ¬ ((l : Int) = (i : Int)) := by omega
              obtain ⟨a, ha⟩ : ∃ a, its[i]? = some a := ⟨_, List.getElem?_eq_getElem HI.out.1⟩
              obtain ⟨b, hb'⟩ : ∃ b, its[l]? = some b := ⟨_, List.getElem?_eq_getElem hll⟩
              have HR := Lib.hid hR
              have HA := Lib.hid (And.intro ha hb')
              clear hR hll hli ha hb'
              go_wp2_with fail
              refine (swap_calls _ base hb mb i l (.slice A n cp) its came a b HP2.out HA.out.1 HA.out.2 (by have := HI.out.2; omega)).mono ?_
              rintro e w1 ⟨rfl, hp1, hk1⟩
              have HP3 := Lib.hid hp1
              have HK3 := Lib.hid (HK2.out.trans hk1)
              clear hp1 hk1 HP2 HK2
              go_wp2_with fail
              go_roundg k1
              case measure => omega
              case rel => exact Lib.hid ⟨swapL its i l, l, by rw [swapL_length]; exact HN.out, HR.out, rfl, HP3.out, HK3.out⟩
      · rw [if_neg hi] at hR; cases hR

end Go.Proofs.YtgihncjllelonaaGreat.Hf

/- heap.Heap[int, float32]: New, Push. -/
namespace Go.Proofs.YtgihncjllelonaaGreat.Hf
open Go Go.RowKit Go.Proofs.YtgihncjllelonaaGreat.Mem Go.Proofs.YtgihncjllelonaaGreat.Hn Go.Proofs.YtgihncjllelonaaGreatW.PrintWords Go.Proofs.YtgihncjllelonaaGreatW.PrintLast
attribute [local go_sem ↓] Go.wp_at_zero Go.wp_at_succ
attribute [local go_sem] Go.Proofs.YtgihncjllelonaaGreat.Wt.run_store_float
set_option linter.unusedSimpArgs false
set_option linter.unusedVariables false

theorem HK.trans' {hb mb : Nat} {iv iv1 : Value} {w w1 w2 : World} (h : HK hb mb iv w w1) (h' : HK hb mb iv1 w1 w2) (hi : iv1.ownBlock = iv.ownBlock ∨ ∀ k, iv1.ownBlock = some k → w.heap.size ≤ k) : HK hb mb iv w w2 :=
  ⟨h'.os.trans h.os, h'.tape.trans h.tape, h'.output.trans h.output, Nat.le_trans h.size h'.size, fun k hk h1 h2 h3 => (h'.block k (Nat.lt_of_lt_of_le hk h.size) h1 h2 (fun he => by
    rcases hi with e | e
    · exact h3 (he.trans e)
    · have := e k he.symm; omega)).trans (h.block k hk h1 h2 h3)⟩

theorem func_not_nil (w : World) : (binOp .eql 121 (.func (.func 56) #[] #[]) .nilFunc).run Tryz.prog w = .ok (.bool false) w := by kernel_rfl
theorem run_makeMap0 (w : World) : (Instr.makeMap 159 none).run Tryz.prog w = .ok (.map (some w.heap.size)) (w.alloc (.map #[] 0)) := rfl

set_option maxHeartbeats 4000000 in
set_option maxRecDepth 100000 in
theorem new_calls (w : World) : Calls Tryz.prog 55 #[.func (.func 56) #[] #[]] w fun e w' =>
    ∃ hb mb, e = .returned (.pointer (some ⟨hb, 0, none⟩)) ∧ Hp w' w'.heap.size hb mb (.slice none 0 0) [] 0 ∧ Below w.heap.size w w' ∧ w.heap.size ≤ hb ∧ w.heap.size ≤ mb := by
  have hmm := run_makeMap0 w
  have hnf := func_not_nil w
  go_enter Tryz.func55, Tryz.ntmps55
  go_wp2
  go_ret
  refine ⟨_, _, rfl, ⟨At.made (by simp) rfl, World.ownsRow_nil _ _ _ _, ⟨_, (MP.new w).al, Fits.nil⟩, by simp, by simp; omega, by simp⟩, ((Below.refl _ w).alloc (Nat.le_refl _) _).alloc (by simp) _, by simp, Nat.le_refl _⟩

theorem zero_int (w : World) : (zeroValue 3).run Tryz.prog w = .ok (.int .i64 0) w := by kernel_rfl

def Near (w : World) (iv iv1 : Value) : Prop := iv1.ownBlock = iv.ownBlock ∨ ∀ k, iv1.ownBlock = some k → w.heap.size ≤ k

def tb57_5.T5 : Bool × List (List Nat × List Nat) := (true, [([], []), ([0], [0]), ([1], [1]), ([2], [2]), ([], []), ([], []), ([5], [5]), ([6], [6]), ([7], [7]), ([8], [8]), ([3, 4, 9, 0, 1, 2, 3, 4, 5, 6, 7, 8, 9], [3, 4, 9])])
def tb57_5.B5 : List Nat := [0, 1, 3, 7, 0, 0, 32, 96, 224, 480, 1023]
theorem tb57_5.tab5 : rtab .any (opsOf Tryz.f57 5) = tb57_5.T5 := by kernel_rfl
theorem tb57_5.bits5 : waitsOk tb57_5.T5.2 tb57_5.B5 = true := by kernel_rfl
def tb57_6.T6 : Bool × List (List Nat × List Nat) := (true, [([], []), ([], []), ([1], [1]), ([2], [2]), ([3], [3]), ([], []), ([], []), ([], []), ([7], [7]), ([8], [8]), ([9], [9]), ([5, 6, 10], [5, 6, 10]), ([11], [11]), ([4, 12], [4, 12]), ([0, 0, 1, 2, 3, 4, 5, 6, 7, 8, 9, 10, 11, 12, 13], [0]), ([14, 0, 1, 2, 3, 4, 5, 6, 7, 8, 9, 10, 11, 12, 13], [14]), ([15, 13, 13, 0, 1, 2, 3, 4, 5, 6, 7, 8, 9, 10, 11, 12, 13], [13, 15])])
def tb57_6.B6 : List Nat := [0, 0, 2, 6, 14, 0, 0, 0, 128, 384, 896, 2016, 4064, 8190, 16383, 32767, 65535]
theorem tb57_6.tab6 : rtab .any (opsOf Tryz.f57 6) = tb57_6.T6 := by kernel_rfl
theorem tb57_6.bits6 : waitsOk tb57_6.T6.2 tb57_6.B6 = true := by kernel_rfl
set_option maxHeartbeats 4000000 in
set_option maxRecDepth 100000 in
theorem push_calls (w : World) (base hb mb k : Nat) (iv : Value) (its R : List Itm) (came key : Int) (p : Nat) (h : Hp w base hb mb iv its came) (hl : its.length < 1000000) (hc0 : 0 ≤ came) (hc1 : came < 1000000)
    (hnew : ∀ x ∈ its, x.1 ≠ key) (hp32 : p ≤ 2139095040) (hbw : base ≤ w.heap.size) (hR : upS k (its ++ [(key, p, came + 1)]) its.length = some R) :
    Calls Tryz.prog 57 #[.pointer (some ⟨hb, 0, none⟩), .int .i64 key, .float .f32 p] w fun e w' => e = .returned (.bool true) ∧ ∃ iv', Hp w' base hb mb iv' R (came + 1) ∧ HK hb mb iv w w' ∧ Near w iv iv' := by
  obtain ⟨A, cp, rfl⟩ := own_slice h.own
  obtain ⟨n, hn⟩ : ∃ n, its.length = n := ⟨_, rfl⟩
  obtain ⟨m, hm⟩ : ∃ m, n + 1 = m := ⟨_, rfl⟩
  obtain ⟨f, hmp, hfit⟩ := h.mp
  have hfn : f key = none := by
    cases hf : f key with
    | none => rfl
    | some v =>
      obtain ⟨j, _, x, hx, hk⟩ := (hfit key v).1 hf
      exact absurd hk (hnew x (List.mem_of_getElem? hx))
  have hat := h.hat
  have HRK := Lib.hid (show ∀ x ∈ its ++ [(key, p, came + 1)], x.2.1 ≤ 2139095040 from fun x hx => by
    rcases List.mem_append.1 hx with hx | hx
    · exact h.rk x hx
    · rw [List.mem_singleton] at hx
      subst hx
      exact hp32)
  have hown := h.own
  rw [hn] at hat hown hR hl ⊢
  have hLK := hmp.lookup_ok (P := Tryz.prog) (T := 159) Tryz.underlying159 Tryz.underlying3 zero_int key
  rw [hfn] at hLK
  simp only [Option.getD_none, Option.isSome_none] at hLK
  have d2 := hat.cell 2 rfl
  have d3 := hat.cell 3 rfl
  have f3 := hat.free 3
  have e1 : wrap64 (came + 1) = came + 1 := by unfold wrap64; omega
  have e2 : wrap64 ((m : Int) - 1) = (n : Int) := by unfold wrap64; omega
  have hfit2 : Fits (upd f key (some (n : Int))) (its ++ [(key, p, came + 1)]) := by
    have := hfit.push (x := (key, p, came + 1)) hfn
    rw [hn] at this
    exact this
  have hlow := And.intro h.lb h.lm
  have hlen : (its ++ [(key, p, came + 1)]).length = m := by rw [List.length_append, hn]; exact hm
  have henc : enc its ++ [.int .i64 key, .float .f32 p, .int .i64 (came + 1)] = enc (its ++ [(key, p, came + 1)]) := by rw [enc_append]; rfl
  have HAT := Lib.hid hat
  have HOW := Lib.hid hown
  have HMP := Lib.hid hmp
  have HR := Lib.hid hR
  have HF := Lib.hid hfit2
  have HL := Lib.hid (And.intro hlow hbw)
  have HLEN := Lib.hid hlen
  have HENC := Lib.hid henc
  have HN := Lib.hid (And.intro hl hm)
  clear hp32 h hat hown hmp hfit hR hfit2 hlow hbw hlen henc hl hm hfn hnew hn hc0 hc1
  go_enter Tryz.func57, Tryz.ntmps57
  go_wp2
  refine gen_world (fun W => At W hb [.func (.func 56) #[] #[], .slice A n cp, .map (some mb), .int .i64 (came + 1)] 193 ∧ W.ownsRow base 195 3 (.slice A n cp) n (enc its) ∧ MP W mb f ∧ HK hb mb (.slice A n cp) w W ∧ base ≤ W.heap.size) ?_ ?_
  · exact ⟨HAT.out.put rfl, HOW.out.setB HL.out.1.1, HMP.out.off (HMP.out.ne HAT.out), (HK.refl _ _ _ _).set _ _, by simpa using HL.out.2⟩
  clear hLK d2 d3 f3 HAT HOW HMP
  rintro W ⟨hat, hown, hmp, hk, hs⟩
  obtain ⟨ob, hup, hmp1⟩ := MP.update (P := Tryz.prog) (T := 159) (show MP W.drew mb f from hmp) Tryz.underlying159 Tryz.underlying3 key (n : Int)
  have hbm : hb ≠ mb := hmp.ne hat
  have d1 := hat.cell 1 rfl
  have d2 := hat.cell 2 rfl
  have HS := Lib.hid (And.intro ((hat.drew).putObj (o := ob) hbm) (And.intro (own_putObj (o := ob) (show W.drew.ownsRow base 195 3 (.slice A n cp) n (enc its) from hown) HL.out.1.2) (And.intro hmp1 (And.intro (hk.drew.put ob) (show base ≤ (putObj W.drew mb ob).heap.size by rw [putObj_size]; exact hs)))))
  clear hat hown hmp hk hs hmp1 hbm
  refine start_ (n := 11) (S := fun w' => w'.cell? ⟨hb, 1, none⟩ = some (.slice A n cp) ∧ w'.cell? ⟨hb, 2, none⟩ = some (.map (some mb))) (ds := [10]) (bA 11 0) (by kernel_rfl) rfl rfl ⟨d1, d2⟩ (fun hHeld => ?_)
  refine with_tabW tb57_5.tab5 tb57_5.bits5 (fun HT_ HW_ => ?_)
  refine pw_ 0 26 (bA 11 1) HT_.out ?_
  refine pw_ 1 27 (bA 11 3) HT_.out ?_
  refine pw_ 2 28 (bA 11 7) HT_.out ?_
  refine pw_ 4 30 (bA 11 23) HT_.out ?_
  refine pw_ 5 31 (bA 11 55) HT_.out ?_
  refine pw_ 6 32 (bA 11 119) HT_.out ?_
  refine pw_ 7 33 (bA 11 247) HT_.out ?_
  refine tw_ 3 29 (bA 11 255) HT_.out HW_.out hHeld (hv := by rintro w' ⟨s0, s1⟩; go_simp; with_reducible rfl) (h := ?_)
  refine tw_ 8 34 (bA 11 511) HT_.out HW_.out hHeld (hv := by rintro w' ⟨s0, s1⟩; go_simp; with_reducible rfl) (h := ?_)
  refine pw_ 9 35 (bA 11 1023) HT_.out ?_
  refine last_ (i := 10) (N := none) (bA 11 2047) rfl rfl (one_of HT_.out (by kernel_rfl)) (by decide) (fun K hK => ?_)
  refine skip_ (w1 := ?_) (by rfl) rfl ?_ ?_
  rotate_left; · go_simp; rfl
  refine hK.out _ _ ?_; clear hK K
  refine done_ (done_of HT_.out (by kernel_rfl)) ?_
  clear hHeld HT_ HW_
  refine gen_then (fun W => At W hb [.func (.func 56) #[] #[], .slice A n cp, .map (some mb), .int .i64 (came + 1)] 193 ∧ W.ownsRow base 195 3 (.slice A n cp) n (enc its) ∧ MP W mb (upd f key (some (n : Int))) ∧ HK hb mb (.slice A n cp) w W ∧ base ≤ W.heap.size) HS.out ?_
  clear hup d1 d2 HS
  rintro W ⟨hat, hown, hmp, hk, hs⟩
  have d1 := hat.cell 1 rfl
  have d3 := hat.cell 3 rfl
  have hblt := hat.lt
  have q1 : hb ≠ W.heap.size := by omega
  obtain ⟨i0, hi0, hz0, hz1, hz2⟩ := info_parts info_item
  have hn1 := HN.out.1
  have HAT := Lib.hid hat
  have HOW := Lib.hid hown
  have HMP := Lib.hid hmp
  have HKK := Lib.hid hk
  have HS := Lib.hid hs
  clear hat hown hmp hk hs
  go_wp2
  refine start_ (n := 17) (S := fun w' => w'.cell? ⟨hb, 1, none⟩ = some (.slice A n cp) ∧ w'.cell? ⟨hb, 3, none⟩ = some (.int .i64 (came + 1))) (ds := [16]) (bA 17 0) (by kernel_rfl) rfl rfl ⟨d1, d3⟩ (fun hHeld => ?_)
  refine with_tabW tb57_6.tab6 tb57_6.bits6 (fun HT_ HW_ => ?_)
  refine pw_ 0 36 (bA 17 1) HT_.out ?_
  refine pw_ 1 37 (bA 17 3) HT_.out ?_
  refine pw_ 2 38 (bA 17 7) HT_.out ?_
  refine pw_ 3 39 (bA 17 15) HT_.out ?_
  refine pw_ 5 41 (bA 17 47) HT_.out ?_
  refine pw_ 6 42 (bA 17 111) HT_.out ?_
  refine pw_ 7 43 (bA 17 239) HT_.out ?_
  refine pw_ 8 44 (bA 17 495) HT_.out ?_
  refine pw_ 9 45 (bA 17 1007) HT_.out ?_
  refine tw_ 4 40 (bA 17 1023) HT_.out HW_.out hHeld (hv := by rintro w' ⟨s0, s1⟩; go_simp; with_reducible rfl) (h := ?_)
  refine tw_ 10 46 (bA 17 2047) HT_.out HW_.out hHeld (hv := by rintro w' ⟨s0, s1⟩; go_simp; with_reducible rfl) (h := ?_)
  refine pw_ 11 47 (bA 17 4095) HT_.out ?_
  refine one_ (i := 12) (N := some 48) (bA 17 8191) rfl rfl (one_of HT_.out (by kernel_rfl)) (by decide) (fun K hK => ?_)
  refine value_ (w1 := ?_) (v := ?_) (by rfl) rfl ?_ ?_
  rotate_left 2
  · go_simp
    constructor
    · rfl
    · rfl
  refine hK.out _ _ ⟨(HAT.out.drew.al.cell 1 rfl), (HAT.out.drew.al.cell 3 rfl)⟩ (fun hHeld => ?_)
  clear hK K
  refine norm_ (a' := ?_) ?_ ?_
  rotate_left
  · show Act.put _ (some 48) _ = _
    simp only [Act.put, pA, pB, pC, pD, pE]; rfl
  refine one_ (i := 13) (N := some 49) (bA 17 16383) rfl rfl (one_of HT_.out (by kernel_rfl)) (by decide) (fun K hK => ?_)
  refine step_append_lies _ (by rfl) (.tmp 40) (.tmp 48) 191 (by rfl) base 195 i0 (.agg #[.int .i64 0, .float .f32 0, .int .i64 0]) 3 24 Tryz.underlying191 hi0 hz0 hz1 hz2 rfl (by omega) _ n (enc its) (by rfl) ((HOW.out.alloc _).drew) ⟨W.heap.size, 0, none⟩ 1 1 [.int .i64 key, .float .f32 p, .int .i64 (came + 1)] (by rfl) rfl (World.news_of_block (heap_alloc_new W (.cells #[.int .i64 key, .float .f32 p, .int .i64 (came + 1)] 195))) (by simp [Value.oneCell']) (by omega) (by unfold maxLen; omega) (by omega) (by have := HS.out; simp; omega) _ rfl ?_
  intro g cap w1 hown hgrow hat hlt
  have ha1 := HAT.out.al.drew.grown hgrow (own_off HOW.out HAT.out (by decide))
  have hm1 := HMP.out.al.drew.grown hgrow (HMP.out.own HOW.out)
  have hk1 := ((HKK.out.al (.cells #[.int .i64 key, .float .f32 p, .int .i64 (came + 1)] 195)).drew).grown hgrow rfl
  have fr1 := ha1.free 1
  have cr1 := ha1.cell 1 rfl
  have hnear : (Value.slice (some ⟨g, 0, none⟩) m cap).ownBlock = (Value.slice A n cp).ownBlock ∨ w.heap.size ≤ g := hat.imp (fun h => h.symm) (fun h => by have := HKK.out.size; simp at h; omega)
  have hsz := hgrow.size
  rw [HN.out.2] at hown ⊢
  have HAT3 := Lib.hid ha1; have HMP3 := Lib.hid hm1; have HK3 := Lib.hid hk1; have HO3 := Lib.hid hown; have HNR := Lib.hid hnear; have HSZ := Lib.hid hsz; clear ha1 hm1 hk1 hgrow hown hat hnear hsz
  refine hK.out _ _ ⟨(HAT3.out.cell 1 rfl), (HAT3.out.cell 3 rfl)⟩ (fun hHeld => ?_)
  clear hK K
  refine norm_ (a' := ?_) ?_ ?_
  rotate_left
  · show Act.put _ (some 49) _ = _
    simp only [Act.put, pA, pB, pC, pD, pE]; rfl
  refine pw_ 14 50 (bA 17 32767) HT_.out ?_
  refine pw_ 15 51 (bA 17 65535) HT_.out ?_
  refine last_ (i := 16) (N := none) (bA 17 131071) rfl rfl (one_of HT_.out (by kernel_rfl)) (by decide) (fun K hK => ?_)
  refine skip_ (w1 := ?_) (by rfl) rfl ?_ ?_
  rotate_left; · go_simp; rfl
  refine hK.out _ _ ?_; clear hK K
  refine done_ (done_of HT_.out (by kernel_rfl)) ?_
  clear hHeld HT_ HW_
  refine gen_then (fun W2 => Hp W2 base hb mb (.slice (some ⟨g, 0, none⟩) m cap) (its ++ [(key, p, came + 1)]) (came + 1) ∧ HK hb mb (.slice A n cp) w W2) ?_ ?_
  · have ho := HO3.out
    rw [HENC.out] at ho
    have hlen := HLEN.out
    refine ⟨⟨?_, ?_, ⟨_, HMP3.out.off (HMP3.out.ne HAT3.out), HF.out⟩, HL.out.1.1, HL.out.1.2, HRK.out⟩, HK3.out.set _ _⟩
    · exact HAT3.out.put rfl
    · rw [hlen]; exact ho.setB HL.out.1.1
  clear fr1 cr1 HAT3 HMP3 HK3 HO3 HAT HOW HMP HKK HS d1 d3 hblt q1 hlt
  rintro W2 ⟨hp2, hk2⟩
  have d1 := hp2.hat.cell 1 rfl
  have HP2 := Lib.hid hp2
  have HK2 := Lib.hid hk2
  clear hp2 hk2
  go_wp2_with fail
  refine (up_calls _ base hb mb n k _ _ R _ HP2.out (by have := HLEN.out; have := HN.out.2; omega) HR.out).mono ?_
  rintro e w3 ⟨rfl, hp3, hk3⟩
  have HP3 := Lib.hid hp3
  have HK3 := Lib.hid hk3
  clear hp3 hk3
  go_wp2_with fail
  go_ret
  have hnear : Near w (.slice A n cp) (.slice (some ⟨g, 0, none⟩) m cap) := HNR.out.imp id (fun h k hk => by cases hk; exact h)
  exact ⟨rfl, _, HP3.out, HK2.out.trans' HK3.out hnear, hnear⟩

end Go.Proofs.YtgihncjllelonaaGreat.Hf

/- heap.Heap[int, float32]: Peek, Drop of the first, Pop. -/
namespace Go.Proofs.YtgihncjllelonaaGreat.Hf
open Go Go.RowKit Go.Proofs.YtgihncjllelonaaGreat.Mem Go.Proofs.YtgihncjllelonaaGreat.Hn Go.Proofs.YtgihncjllelonaaGreatW.PrintWords Go.Proofs.YtgihncjllelonaaGreatW.PrintLast
attribute [local go_sem ↓] Go.wp_at_zero Go.wp_at_succ
attribute [local go_sem] Go.Proofs.YtgihncjllelonaaGreat.Wt.run_store_float
set_option linter.unusedSimpArgs false
set_option linter.unusedVariables false

def takeS (its : List Itm) : List Itm := (swapL its 0 (its.length - 1)).take (its.length - 1)
def dropS (k : Nat) (its : List Itm) : Option (List Itm) := if 1 < its.length then downS k (takeS its) 0 else some (takeS its)

theorem run_clear3 (w : World) (g o c : Nat) (ty : TypeId) (ht : w.there g o 3) :
    (Builtin.clear_ #[191] ty #[.slice (some ⟨g, o, none⟩) 1 c]).run Tryz.prog w = .ok (.tuple #[]) (w.setCells g o [.int .i64 0, .float .f32 0, .int .i64 0]) := by
  have hv : ∀ w, (zeroValue 195).run Tryz.prog w = .ok (.agg #[.int .i64 0, .float .f32 0, .int .i64 0]) w := fun w => by kernel_rfl
  have hzc : (Builtin.zeroCells (Value.agg #[.int .i64 0, .float .f32 0, .int .i64 0]).cells 1).toList = [.int .i64 0, .float .f32 0, .int .i64 0] := by kernel_rfl
  have hst := run_storeCells_cells (P := Tryz.prog) g o [.int .i64 0, .float .f32 0, .int .i64 0] 0 w (fun j hj => (ht j hj).1) (fun j hj => (ht j hj).2) (by simp [Value.oneCell'])
  simp only [Nat.add_zero] at hst
  simp [Builtin.clear_, run_underlying Tryz.underlying191, hv, hzc, hst]

set_option maxHeartbeats 4000000 in
set_option maxRecDepth 100000 in
theorem peek_none (w : World) (base hb mb : Nat) (iv : Value) (came : Int) (h : Hp w base hb mb iv [] came) :
    Calls Tryz.prog 107 #[.pointer (some ⟨hb, 0, none⟩)] w fun e w' => e = .returned (.tuple #[.int .i64 0, .float .f32 0, .bool false]) ∧ w' = w := by
  obtain ⟨A, cp, rfl⟩ := own_slice h.own
  have d1 := h.hat.cell 1 rfl
  have e1 : ((([] : List Itm).length : Int) == 0) = true := rfl
  clear h
  go_enter Tryz.func107, Tryz.ntmps107
  go_wp2
  go_ret3
  exact ⟨rfl, rfl⟩

def tb107_3.T3 : Bool × List (List Nat × List Nat) := (true, [([], []), ([0], [0]), ([1], [1]), ([2], [2]), ([3], [3]), ([4], [4]), ([5], [5]), ([], []), ([7], [7]), ([8], [8]), ([9], [9]), ([10], [10]), ([11], [11]), ([12], [12]), ([6, 0, 1, 2, 3, 4, 5, 6], [6]), ([13, 14, 0, 1, 2, 3, 4, 5, 6, 7, 8, 9, 10, 11, 12, 13, 14], [13]), ([15, 0, 1, 2, 3, 4, 5, 6, 7, 8, 9, 10, 11, 12, 13, 14, 15], [])])
def tb107_3.B3 : List Nat := [0, 1, 3, 7, 15, 31, 63, 0, 128, 384, 896, 1920, 3968, 8064, 127, 32767, 65535]
theorem tb107_3.tab3 : rtab .any (opsOf Tryz.f107 3) = tb107_3.T3 := by kernel_rfl
theorem tb107_3.bits3 : waitsOk tb107_3.T3.2 tb107_3.B3 = true := by kernel_rfl
set_option maxHeartbeats 4000000 in
set_option maxRecDepth 100000 in
theorem peek_some (w : World) (base hb mb : Nat) (iv : Value) (its : List Itm) (came : Int) (a : Itm) (h : Hp w base hb mb iv its came) (ha : its[0]? = some a) (hl : its.length ≤ 1000000) :
    Calls Tryz.prog 107 #[.pointer (some ⟨hb, 0, none⟩)] w fun e w' => e = .returned (.tuple #[.int .i64 a.1, .float .f32 a.2.1, .bool true]) ∧ w' = w.drew := by
  have hi : 0 < its.length := (List.getElem?_eq_some_iff.1 ha).1
  obtain ⟨A, cp, rfl⟩ := own_slice h.own
  obtain ⟨g, cap, he, hbg, hglt⟩ := h.own.form hi
  cases he
  have hown := h.own
  have hat := h.hat
  obtain ⟨n, hn⟩ : ∃ n, its.length = n := ⟨_, rfl⟩
  rw [hn] at hown hat hi
  have xa := enc_at its 0 a ha
  have i0 : (0 : Int) < (n : Int) := by omega
  have e1 : ((n : Int) == 0) = false := beq_eq_false_iff_ne.2 (by omega)
  have e3 : ¬ ((n : Int) = 0) := by omega
  have c0 := (hown.cellAt 0 (by omega)).trans xa.1
  have c1 := (hown.cellAt 1 (by omega)).trans xa.2.1
  have d1 := hat.cell 1 rfl
  clear h ha hown hat xa hbg hglt
  go_enter Tryz.func107, Tryz.ntmps107
  go_wp2
  refine start_ (n := 17) (S := fun w' => w'.cell? ⟨hb, 1, none⟩ = some (.slice (some ⟨g, 0, none⟩) n cp) ∧ w'.cell? ⟨g, 0, none⟩ = some (.int .i64 a.1) ∧ w'.cell? ⟨g, 1, none⟩ = some (.float .f32 a.2.1)) (ds := []) (bA 17 0) (by kernel_rfl) rfl rfl ⟨d1, c0, c1⟩ (fun hHeld => ?_)
  refine with_tabW tb107_3.tab3 tb107_3.bits3 (fun HT_ HW_ => ?_)
  refine pw_ 0 13 (bA 17 1) HT_.out ?_
  refine pw_ 1 14 (bA 17 3) HT_.out ?_
  refine pw_ 2 15 (bA 17 7) HT_.out ?_
  refine pw_ 7 20 (bA 17 135) HT_.out ?_
  refine pw_ 8 21 (bA 17 391) HT_.out ?_
  refine pw_ 9 22 (bA 17 903) HT_.out ?_
  refine tw_ 3 16 (bA 17 911) HT_.out HW_.out hHeld (hv := by rintro w' ⟨s0, s1, s2⟩; go_simp; with_reducible rfl) (h := ?_)
  refine pw_ 4 17 (bA 17 927) HT_.out ?_
  refine pw_ 5 18 (bA 17 959) HT_.out ?_
  refine tw_ 6 19 (bA 17 1023) HT_.out HW_.out hHeld (hv := by rintro w' ⟨s0, s1, s2⟩; go_simp; with_reducible rfl) (h := ?_)
  refine pw_ 14 2 (bA 17 17407) HT_.out ?_
  refine tw_ 10 23 (bA 17 18431) HT_.out HW_.out hHeld (hv := by rintro w' ⟨s0, s1, s2⟩; go_simp; with_reducible rfl) (h := ?_)
  refine pw_ 11 24 (bA 17 20479) HT_.out ?_
  refine pw_ 12 25 (bA 17 24575) HT_.out ?_
  refine tw_ 13 26 (bA 17 32767) HT_.out HW_.out hHeld (hv := by rintro w' ⟨s0, s1, s2⟩; go_simp; with_reducible rfl) (h := ?_)
  refine pw_ 15 3 (bA 17 65535) HT_.out ?_
  refine pw_ 16 4 (bA 17 131071) HT_.out ?_
  refine done_ (done_of HT_.out (by kernel_rfl)) ?_
  clear hHeld HT_ HW_
  go_wp2
  go_ret3
  exact ⟨rfl, rfl⟩

theorem swap_last {its : List Itm} {m : Nat} {a : Itm} (hn : its.length = m + 1) (ha : its[0]? = some a) : swapL its 0 m = takeS its ++ [a] := by
  have hl := swapL_length its 0 m
  have h1 : (swapL its 0 m)[m]? = some a := by rw [swapL_get its (by omega) (by omega), if_pos rfl, ha]
  have h2 : takeS its = (swapL its 0 m).take m := by rw [takeS, hn, Nat.add_sub_cancel]
  rw [h2]
  apply List.ext_getElem?
  intro j
  by_cases hj : j < m
  · rw [List.getElem?_append_left (by simp; omega), List.getElem?_take, if_pos hj]
  · by_cases hjm : j = m
    · rw [hjm, h1, List.getElem?_append_right (by simp; omega)]
      simp [hl, hn]
    · rw [List.getElem?_eq_none (by omega), List.getElem?_eq_none (by simp; omega)]
theorem takeS_length {its : List Itm} {m : Nat} (hn : its.length = m + 1) : (takeS its).length = m := by
  rw [takeS, List.length_take, swapL_length, hn]; omega

def DropPost (w : World) (base hb mb : Nat) (iv : Value) (R : List Itm) (came : Int) (w' : World) : Prop :=
  ∃ iv', Hp w' base hb mb iv' R came ∧ HK hb mb iv w w' ∧ iv'.ownBlock = iv.ownBlock

set_option maxHeartbeats 4000000 in
set_option maxRecDepth 100000 in
theorem drop_calls (w : World) (base hb mb k : Nat) (iv : Value) (its R : List Itm) (came : Int) (a : Itm) (h : Hp w base hb mb iv its came) (ha : its[0]? = some a) (hl : its.length < 1000000) (hR : dropS k its = some R) :
    Calls Tryz.prog 108 #[.pointer (some ⟨hb, 0, none⟩), .int .i64 a.1] w fun e w' => e = .returned (.bool true) ∧ DropPost w base hb mb iv R came w' := by
  have hi : 0 < its.length := (List.getElem?_eq_some_iff.1 ha).1
  obtain ⟨A, cp, rfl⟩ := own_slice h.own
  obtain ⟨g, cap, he, hbg, hglt⟩ := h.own.form hi
  cases he
  obtain ⟨m, hm⟩ : ∃ m, its.length = m + 1 := ⟨its.length - 1, by omega⟩
  obtain ⟨b, hb'⟩ : ∃ b, its[m]? = some b := ⟨_, List.getElem?_eq_getElem (by omega)⟩
  obtain ⟨f, hmp, hfit⟩ := h.mp
  have hf0 : f a.1 = some 0 := (hfit a.1 0).2 ⟨0, rfl, a, ha, rfl⟩
  have hLK := hmp.lookup_ok (P := Tryz.prog) (T := 159) Tryz.underlying159 Tryz.underlying3 zero_int a.1
  rw [hf0] at hLK
  simp only [Option.getD_some, Option.isSome_some] at hLK
  have hcap : m + 1 ≤ cp := by
    rcases h.own.2 with ⟨h1, _⟩ | ⟨_, _, _, h1, _, _, h2, _⟩
    · cases h1
    · cases h1; omega
  rw [hm] at h ⊢
  have d1 := h.hat.cell 1 rfl
  have d2 := h.hat.cell 2 rfl
  have e1 : wrap64 (m : Int) = (m : Int) := by unfold wrap64; omega
  have HH := Lib.hid h
  have HA := Lib.hid (And.intro ha hb')
  have HM := Lib.hid (And.intro hm hl)
  have HR := Lib.hid hR
  have HC := Lib.hid hcap
  clear h hmp hfit hf0 hi hbg hglt ha hb' hm hl hR hcap
  go_enter Tryz.func108, Tryz.ntmps108
  go_wp2_with fail
  refine (swap_calls _ base hb mb 0 m (.slice (some ⟨g, 0, none⟩) (m + 1) cp) its came a b HH.out HA.out.1 HA.out.2 (by have := HM.out.2; omega)).mono ?_
  rintro e w1 ⟨rfl, hp1, hk1⟩
  rw [swap_last HM.out.1 HA.out.1] at hp1
  obtain ⟨f, hmp, hfit⟩ := hp1.mp
  have hat := hp1.hat
  have hown := hp1.own
  have hlt1 := takeS_length HM.out.1
  have hln : (takeS its ++ [a]).length = m + 1 := by rw [List.length_append, hlt1]; rfl
  rw [hln] at hown
  obtain ⟨ob, hdel, hmp1⟩ := MP.delete (P := Tryz.prog) (T := 159) hmp Tryz.underlying159 Tryz.underlying3 a.1 0 3
  have hbm : hb ≠ mb := hmp.ne hat
  have hown1 := own_putObj (o := ob) hown hp1.lm
  have hat1 := hat.putObj (o := ob) hbm
  have hclr : ∀ c, (Builtin.clear_ #[191] 0 #[.slice (some ⟨g, m * 3, none⟩) 1 c]).run Tryz.prog (putObj w1 mb ob) = _ := fun c => run_clear3 (putObj w1 mb ob) g (m * 3) c 0 (own_there hown1 (show m < m + 1 by omega))
  have hown2 := own_put (x := (0, 0, 0)) hown1 m
  have d1 := hat.cell 1 rfl
  have d2 := hat.cell 2 rfl
  have d1' := hat1.cell 1 rfl
  have hbg : base ≤ g := (hown.lt g rfl).1
  have hlow := And.intro hp1.lb hp1.lm
  have hat2 := hat1.grown hown2.2 (by have := hlow.1; simp; omega)
  have d1'' := hat2.cell 1 rfl
  have f1'' := hat2.free 1
  have hmp2 := (hmp1.grown hown2.2 (by have := hlow.2; simp; omega)).off (i := 1) (u := .slice (some ⟨g, 0, none⟩) m cp) hbm
  have hk2 := ((hk1.put ob).grown hown2.2 rfl).set 1 (.slice (some ⟨g, 0, none⟩) m cp)
  have hset : (takeS its ++ [a]).set m (0, 0, 0) = takeS its ++ [(0, 0, 0)] := by
    rw [List.set_append_right _ _ (by omega), hlt1, Nat.sub_self]
    rfl
  have hown3 := hown2.1
  rw [hset, enc_append] at hown3
  have hown4 := (ownsRow_pop (by rw [enc_length, hlt1]) hown3).setB (i := 1) (u := .slice (some ⟨g, 0, none⟩) m cp) hlow.1
  have hfit2 : Fits (upd f a.1 none) (takeS its) := hfit.pop
  have hp2 : Hp (((putObj w1 mb ob).setCells g (m * 3) [.int .i64 0, .float .f32 0, .int .i64 0]).setCell ⟨hb, 1, none⟩ (.slice (some ⟨g, 0, none⟩) m cp)) base hb mb (.slice (some ⟨g, 0, none⟩) m cp) (takeS its) came := by
    refine ⟨?_, ?_, ⟨_, hmp2, hfit2⟩, hlow.1, hlow.2, fun x hx => hp1.rk x (List.mem_append_left _ hx)⟩
    · exact hat2.put rfl
    · rw [hlt1]; exact hown4
  have HP2 := Lib.hid hp2
  have HK2 := Lib.hid hk2
  have HLT := Lib.hid hlt1
  have m0 : (0 : Int) ≤ (m : Int) := by omega
  have m4 : m ≤ cp := by have := HC.out; omega
  have m5 : (m : Int) ≤ (cp : Int) := by omega
  have m6 : ¬ (cp = m) := by have := HC.out; omega
  clear hp1 hk1 hat hown hlt1 hln hmp hfit hmp1 hbm hown1 hat1 hown2 hbg hlow hat2 hmp2 hk2 hset hown3 hown4 hfit2 hp2
  by_cases h0 : 0 < m
  · have hR := HR.out
    rw [dropS, if_pos (by have := HM.out.1; omega)] at hR
    have HR2 := Lib.hid hR
    clear hR
    go_wp2_with fail
    refine (up_calls _ base hb mb 0 1 _ (takeS its) (takeS its) _ HP2.out (by have := HLT.out; have := HM.out; omega) (by have := HLT.out; rw [upS, if_pos (by omega)]; rfl)).mono ?_
    rintro e w3 ⟨rfl, hp3, hk3⟩
    have HP3 := Lib.hid hp3
    have HK3 := Lib.hid hk3
    clear hp3 hk3 hclr hdel
    go_wp2_with fail
    refine (down_calls _ base hb mb 0 k _ (takeS its) R _ HP3.out HR2.out).mono ?_
    rintro e w4 ⟨rfl, hp4, hk4⟩
    have HP4 := Lib.hid hp4
    have HK4 := Lib.hid hk4
    clear hp4 hk4
    go_wp2_with fail
    go_ret
    exact ⟨rfl, _, HP4.out, (HK2.out.trans' HK3.out (Or.inl rfl)).trans' HK4.out (Or.inl rfl), rfl⟩
  · have hR := HR.out
    rw [dropS, if_neg (by have := HM.out.1; omega)] at hR
    obtain rfl := Option.some.inj hR
    clear hR
    go_wp2_with fail
    go_ret
    exact ⟨rfl, _, HP2.out, HK2.out, rfl⟩

set_option maxHeartbeats 4000000 in
set_option maxRecDepth 100000 in
theorem pop_none (w : World) (base hb mb : Nat) (iv : Value) (came : Int) (h : Hp w base hb mb iv [] came) :
    Calls Tryz.prog 58 #[.pointer (some ⟨hb, 0, none⟩)] w fun e w' => e = .returned (.tuple #[.int .i64 0, .float .f32 0, .bool false]) ∧ w' = w := by
  have HH := Lib.hid h
  clear h
  go_enter Tryz.func58, Tryz.ntmps58
  go_wp2_with fail
  refine (peek_none _ base hb mb iv came HH.out).mono ?_
  rintro e w1 ⟨rfl, rfl⟩
  go_wp2_with fail
  go_ret3
  exact ⟨rfl, rfl⟩

set_option maxHeartbeats 4000000 in
set_option maxRecDepth 100000 in
theorem pop_some (w : World) (base hb mb k : Nat) (iv : Value) (its R : List Itm) (came : Int) (a : Itm) (h : Hp w base hb mb iv its came) (ha : its[0]? = some a) (hl : its.length < 1000000) (hR : dropS k its = some R) :
    Calls Tryz.prog 58 #[.pointer (some ⟨hb, 0, none⟩)] w fun e w' => e = .returned (.tuple #[.int .i64 a.1, .float .f32 a.2.1, .bool true]) ∧ DropPost w base hb mb iv R came w' := by
  have HH := Lib.hid (And.intro h (And.intro ha (And.intro hl hR)))
  clear h ha hl hR
  go_enter Tryz.func58, Tryz.ntmps58
  go_wp2_with fail
  refine (peek_some _ base hb mb iv its came a HH.out.1 HH.out.2.1 (by have := HH.out.2.2.1; omega)).mono ?_
  rintro e w1 ⟨rfl, rfl⟩
  go_wp2_with fail
  refine (drop_calls _ base hb mb k iv its R came a HH.out.1.drew HH.out.2.1 HH.out.2.2.1 HH.out.2.2.2).mono ?_
  rintro e w2 ⟨rfl, hp⟩
  have HP := Lib.hid hp
  clear hp
  go_wp2_with fail
  go_ret3
  obtain ⟨iv', h1, h2, h3⟩ := HP.out
  exact ⟨rfl, iv', h1, ((HK.refl hb mb iv w).drew).trans h2, h3⟩

end Go.Proofs.YtgihncjllelonaaGreat.Hf
