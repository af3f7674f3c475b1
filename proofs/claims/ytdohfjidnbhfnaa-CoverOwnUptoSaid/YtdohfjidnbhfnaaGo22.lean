/- spans.Set[int32]: Add. -/
import Derived.Test.YtdohfjidnbhfnaaGo21
import Derived.Test.YtdohfjidnbhfnaaGo4
import Derived.Test.YtdohfjidnbhfnaaGo20
namespace Go.Proofs.Ytdohfjidnbhfnaa.Sp
open Go Go.RowKit Go.Proofs.Ytdohfjidnbhfnaa.Mem Go.Proofs.Ytdohfjidnbhfnaa.Lw
attribute [local go_sem ↓] Go.wp_at_zero Go.wp_at_succ
set_option linter.unusedSimpArgs false
set_option linter.unusedVariables false

theorem runs2_one (l : List (Int × Int)) : ∀ u ∈ runs2 l, u.oneCell' = true := by
  intro u hu
  simp only [runs2, List.mem_flatMap] at hu
  obtain ⟨p, _, hp⟩ := hu
  rcases List.mem_cons.1 hp with rfl | hp
  · rfl
  · rcases List.mem_cons.1 hp with rfl | hp
    · rfl
    · simp at hp
theorem RdV.of_own {w : World} {base size n : Nat} {e : TypeId} {v : Value} {xs : List Value} (h : w.ownsRow base e size v n xs) (h1 : ∀ u ∈ xs, u.oneCell' = true) : RdV w v n size xs := by
  refine ⟨h.1, h1, ?_⟩
  rcases h.2 with ⟨h2, h3⟩ | ⟨g, cap, cur, h2, h3, h4, h5, h6, h7, h8⟩
  · exact .inl ⟨h2, h3⟩
  · refine .inr ⟨⟨g, 0, none⟩, cap, h2, fun j u hu => ?_⟩
    exact h.cells (g := g) (by rw [h2]; rfl) j u hu
theorem RdR.of_own {w : World} {base n : Nat} {v : Value} {l : List (Int × Int)} (h : w.ownsRow base 84 2 v n (runs2 l)) : ∃ A c, v = .slice A l.length c ∧ RdR w A l := by
  have hn : n = l.length := by have := h.1; rw [runs2_length] at this; omega
  subst hn
  rcases h.2 with ⟨h2, h3⟩ | ⟨g, cap, cur, h2, h3, h4, h5, h6, h7, h8⟩
  · obtain rfl : l = [] := List.length_eq_zero_iff.1 h3
    exact ⟨none, 0, h2, RdR.nil _ _⟩
  · refine ⟨_, cap, h2, fun j u v hx => ?_⟩
    obtain ⟨r1, r2⟩ := runs2_at l j u v hx
    refine ⟨g, cur.toList, rfl, by unfold At; simpa using h4, ?_, ?_⟩
    · rw [← h8, List.getElem?_take] at r1
      split at r1
      · exact r1
      · cases r1
    · rw [← h8, List.getElem?_take] at r2
      split at r2
      · exact r2
      · cases r2

structure AddS (w1 : World) (X : Nat) (v8 : Value) (a : List (Int × Int)) (x : Int × Int) (v9 : Value) (c : List (Int × Int)) (W : World) : Prop where
  two : Two w1 84 2 v8 a.length (runs2 a) 84 2 v9 c.length (runs2 c) W
  hx : At W X [.int .i32 x.1, .int .i32 x.2] 84
  n8 : v8.ownBlock ≠ some X
  n9 : v9.ownBlock ≠ some X
  le : w1.heap.size ≤ X
section
variable {w1 W W' : World} {X : Nat} {v8 v9 v' : Value} {a c : List (Int × Int)} {x y : Int × Int}
theorem AddS.below (h : AddS w1 X v8 a x v9 c W) (hb : Below W.heap.size W W') : AddS w1 X v8 a x v9 c W' := ⟨h.two.below hb, h.hx.below hb h.hx.lt, h.n8, h.n9, h.le⟩
theorem AddS.grow1 (h : AddS w1 X v8 a x v9 c W) (ho : W'.ownsRow w1.heap.size 84 2 v' (a.length + 1) (runs2 a ++ [.int .i32 y.1, .int .i32 y.2])) (hg : W.grownBy W' v8.ownBlock) (hn : v'.ownBlock = v8.ownBlock ∨ v'.ownBlock = some W.heap.size) : AddS w1 X v' (a ++ [y]) x v9 c W' := by
  have e : runs2 a ++ [.int .i32 y.1, .int .i32 y.2] = runs2 (a ++ [y]) := by rw [runs2_append]; rfl
  have el : a.length + 1 = (a ++ [y]).length := by simp
  rw [e, el] at ho
  refine ⟨h.two.grow1 ho hg hn, h.hx.grown hg (fun e => h.n8 e.symm), ?_, h.n9, h.le⟩
  rcases hn with hn | hn
  · rw [hn]; exact h.n8
  · rw [hn]; intro e; cases e; exact Nat.lt_irrefl _ h.hx.lt
theorem AddS.grow2 (h : AddS w1 X v8 a x v9 c W) (ho : W'.ownsRow w1.heap.size 84 2 v' (c.length + 1) (runs2 c ++ [.int .i32 y.1, .int .i32 y.2])) (hg : W.grownBy W' v9.ownBlock) (hn : v'.ownBlock = v9.ownBlock ∨ v'.ownBlock = some W.heap.size) : AddS w1 X v8 a x v' (c ++ [y]) W' := by
  have e : runs2 c ++ [.int .i32 y.1, .int .i32 y.2] = runs2 (c ++ [y]) := by rw [runs2_append]; rfl
  have el : c.length + 1 = (c ++ [y]).length := by simp
  rw [e, el] at ho
  refine ⟨h.two.grow2 ho hg hn, h.hx.grown hg (fun e => h.n9 e.symm), h.n8, ?_, h.le⟩
  rcases hn with hn | hn
  · rw [hn]; exact h.n9
  · rw [hn]; intro e; cases e; exact Nat.lt_irrefl _ h.hx.lt
theorem AddS.set (h : AddS w1 X v8 a x v9 c W) (i : Nat) {u : Value} (hu : [Value.int .i32 x.1, .int .i32 x.2].set i u = [.int .i32 y.1, .int .i32 y.2]) : AddS w1 X v8 a y v9 c (W.setCell ⟨X, i, none⟩ u) :=
  ⟨⟨ownsRow_setCell_other h.two.r1 h.n8 u, ownsRow_setCell_other h.two.r2 h.n9 u, h.two.ne, h.two.b.setCell h.le u⟩, h.hx.put hu.symm, h.n8, h.n9, h.le⟩
end

def ARel (w1 : World) (X : Nat) (lo hi : Int) (l : List (Int × Int)) (kq : Nat) (v8 v9 v24 : Value) (W : World) : Prop :=
  ∃ (i : Nat) (a : List (Int × Int)) (x : Int × Int) (c : List (Int × Int)), v24 = .int .i64 (i : Int) ∧ i + kq = l.length ∧ addF (l.drop i) a x c = addF l [] (lo, hi) [] ∧ (0 < x.1 ∧ x.1 ≤ x.2 ∧ x.2 ≤ 1000000) ∧ a.length ≤ i ∧ c.length ≤ i ∧ AddS w1 X v8 a x v9 c W

set_option maxHeartbeats 8000000 in
set_option maxRecDepth 100000 in
theorem add_calls (w : World) (g : Nat) (lo hi : Int) (l : List (Int × Int)) (hS : SetAt w g l) (hl : Ok l) (h1 : 0 < lo) (h2 : lo ≤ hi) (h3 : hi ≤ 1000000) :
    Calls Try.prog 41 #[.pointer (some ⟨g, 0, none⟩), .int .i32 lo, .int .i32 hi] w fun e w' => e = .returned (.bool (!holdsB l lo hi)) ∧ SetAt w' g (addR l lo hi) ∧ Kpt (· = g) w w' := by
  have HH := Lib.hid (holds_calls w g lo hi l hS hl)
  have HS := Lib.hid (And.intro hS hl)
  obtain ⟨R, hR⟩ : ∃ R, addR l lo hi = R := ⟨_, rfl⟩
  obtain ⟨bb, hbb⟩ : ∃ bb, (!holdsB l lo hi) = bb := ⟨_, rfl⟩
  rw [hR, hbb]
  have HRR := Lib.hid (And.intro hR hbb)
  clear hS hl hR hbb
  go_enter Try.func41, Try.ntmps41
  go_wp2_with fail
  refine HH.out.mono ?_
  clear HH
  rintro e w1 ⟨rfl, hb⟩
  by_cases hh : holdsB l lo hi = true
  · have HX := Lib.hid (And.intro hb hh)
    go_wp2_with fail
    go_ret
    refine ⟨by rw [← HRR.out.2, HX.out.2]; rfl, ?_, Kpt.of_below HX.out.1⟩
    rw [← HRR.out.1, addR, if_pos HX.out.2]
    exact HS.out.1.below HX.out.1
  · replace hh := eq_false_of_ne_true hh
    have HX := Lib.hid (And.intro hb hh)
    have HS1 := Lib.hid (HS.out.1.below hb)
    obtain ⟨A, c0, hat, hr⟩ := HS1.out
    have cg := hat.cell 0 rfl
    have hlt := hat.lt
    have q0 := Nat.ne_of_lt hlt
    obtain ⟨n, hn⟩ : ∃ n, l.length = n := ⟨_, rfl⟩
    rw [hn] at cg
    have HN := Lib.hid hn
    have HR := Lib.hid hr
    have HAT := Lib.hid hat
    clear hb hat hr hn
    go_wp2_with fail
    have hA0 : Hid (ARel w1 w1.heap.size lo hi l n (.slice none 0 0) (.slice none 0 0) (.int .i64 0) (w1.alloc (.cells #[.int .i32 lo, .int .i32 hi] 84))) :=
      Lib.hid ⟨0, [], (lo, hi), [], rfl, by rw [HN.out]; omega, rfl, ⟨h1, h2, h3⟩, Nat.zero_le _, Nat.zero_le _, ⟨World.ownsRow_nil _ _ _ _, World.ownsRow_nil _ _ _ _, (fun k h => by cases h), (Below.refl _ _).alloc (Nat.le_refl _) _⟩, At.made rfl rfl, by simp [Value.ownBlock], by simp [Value.ownBlock], Nat.le_refl _⟩
    obtain ⟨X, hX⟩ : ∃ X, w1.heap.size = X := ⟨_, rfl⟩
    rw [hX] at hA0 ⊢
    have HXX := Lib.hid hX
    clear hX cg hlt q0 hh
    go_loopg [8, 9, 24] n (fun kq v8 v9 v24 w' => Hid (ARel w1 X lo hi l kq v8 v9 v24 w'))
    case atStart => exact hA0
    case round =>
      clear hA0
      obtain ⟨i, a, ⟨x1, x2⟩, c, rfl, hik, hF, ⟨p1, p2, p3⟩, hla, hlc, hA⟩ := hrel.out
      clear hrel
      dsimp only at p1 p2 p3
      have hll := HS.out.2.len
      rw [HN.out] at hik hll
      by_cases hin : i < n
      · obtain ⟨k1, rfl⟩ : ∃ k1, gk = k1 + 1 := ⟨gk - 1, by omega⟩
        obtain ⟨⟨u, v⟩, huv⟩ : ∃ r, l[i]? = some r := ⟨_, List.getElem?_eq_getElem (by rw [HN.out]; exact hin)⟩
        obtain ⟨o1, o2, o3⟩ := HS.out.2.at (List.mem_of_getElem? huv)
        dsimp only at o1 o2 o3
        obtain ⟨b, cs, rfl, hbb, hu, hv⟩ := (HR.out.below hA.two.b) i u v huv
        rw [List.drop_eq_getElem_cons (by rw [HN.out]; exact hin), addF, show l[i]'(by rw [HN.out]; exact hin) = (u, v) by rw [List.getElem?_eq_getElem (by rw [HN.out]; exact hin)] at huv; exact Option.some.inj huv] at hF
        dsimp only at hF
        have cu := hbb.cell _ hu
        have cv := hbb.cell _ hv
        have d1 := hA.hx.cell 0 rfl
        have d2 := hA.hx.cell 1 rfl
        have l1 := hbb.lt
        have l2 := hA.hx.lt
        have n1 := Nat.ne_of_lt l1
        have n2 := Nat.ne_of_lt l2
        have i0 : (0 : Int) ≤ (i : Int) := by omega
        have i1 : (i : Int) < (n : Int) := by omega
        have i2 : (n : Int) ≤ 1000000 := by omega
        have hAa := hA.below ((Below.refl _ _).alloc (Nat.le_refl _) (.cells #[.int .i32 u, .int .i32 v] 84))
        have hra : At (wr.alloc (.cells #[.int .i32 u, .int .i32 v] 84)) wr.heap.size [.int .i32 u, .int .i32 v] 84 := At.made rfl rfl
        have HP := Lib.hid (And.intro hF (And.intro hla (And.intro hlc hik)))
        have HAA := Lib.hid (And.intro hAa hra)
        clear hF hla hlc hik hAa hra hA hbb hu hv huv hin
        go_wp2_with fail
        refine (apart_calls _ u v x1 x2 (by omega) o3).mono ?_
        rintro e wa ⟨rfl, hba⟩
        obtain ⟨rb, hrb⟩ : ∃ rb, wr.heap.size = rb := ⟨_, rfl⟩
        have hAa := HAA.out.1.below hba
        have hra := HAA.out.2.below hba HAA.out.2.lt
        rw [hrb] at hra ⊢
        clear hrb HAA
        have c1 := hra.cell 0 rfl
        have c2 := hra.cell 1 rfl
        have d1 := hAa.hx.cell 0 rfl
        have d2 := hAa.hx.cell 1 rfl
        have HA := Lib.hid (And.intro hAa hra)
        clear hAa hra hba
        obtain ⟨i0', hif, hz0, hz1, hz2⟩ := info_parts info_run
        by_cases hc1 : v + 1 < x1
        · have e1 : decide (v + 1 < x1) = true := by simpa using hc1
          have hF := HP.out.1
          rw [if_pos hc1] at hF
          have HF := Lib.hid hF
          clear hF hc1 d1 d2
          go_wp2_with (at_builtin; refine wpList_append_any rfl _ _ 86 rfl w1.heap.size 84 i0' (.agg #[.int .i32 0, .int .i32 0]) 2 8 Try.underlying86 hif hz0 hz1 hz2 rfl (by omega) _ a.length (runs2 a) rfl (own_below HA.out.1.two.r1 ((Below.refl _ _).alloc (Nat.le_refl _) _)) _ rfl 1 [.int .i32 u, .int .i32 v] (RdV.lit wa #[.int .i32 u, .int .i32 v] 84 1 2 1 rfl (by simp [Value.oneCell'])) (by have := HP.out.2.1; unfold maxLen; omega) (by have := HP.out.2.1; omega) (by have := HA.out.1.two.b.size; simp; omega) ?_; intro v' wc ho hg hn; have hA3 := Lib.hid ((HA.out.1.below ((Below.refl _ _).alloc (Nat.le_refl _) (.cells #[.int .i32 u, .int .i32 v] 84))).grow1 (y := (u, v)) ho hg hn); clear ho hg hn)
          go_roundg k1
          case measure => omega
          case rel =>
            have hq := HP.out.2
            have hq2 := HN.out
            exact Lib.hid ⟨i + 1, a ++ [(u, v)], (x1, x2), c, by go_num, by omega, HF.out, ⟨p1, p2, p3⟩, by simp; omega, by omega, hA3.out⟩
        · have e1 : decide (v + 1 < x1) = false := by simpa using hc1
          have hF := HP.out.1
          rw [if_neg hc1] at hF
          have HF := Lib.hid hF
          have HC1 := Lib.hid hc1
          clear hF hc1
          go_wp2_with fail
          refine (apart_calls _ x1 x2 u v (by omega) p3).mono ?_
          rintro e wb ⟨rfl, hbb⟩
          have hAb := HA.out.1.below hbb
          have hrb := HA.out.2.below hbb HA.out.2.lt
          clear HA c1 c2 d1 d2
          have c1 := hrb.cell 0 rfl
          have c2 := hrb.cell 1 rfl
          have d1 := hAb.hx.cell 0 rfl
          have d2 := hAb.hx.cell 1 rfl
          have f1 := hAb.hx.free 0
          have f2 := hAb.hx.free 1
          have HA := Lib.hid (And.intro hAb hrb)
          clear hAb hrb hbb
          by_cases hc2 : x2 + 1 < u
          · have e2 : decide (x2 + 1 < u) = true := by simpa using hc2
            have hF := HF.out
            rw [if_pos hc2] at hF
            have HF := Lib.hid hF
            clear hF hc2 d1 d2
            go_wp2_with (at_builtin; refine wpList_append_any rfl _ _ 86 rfl w1.heap.size 84 i0' (.agg #[.int .i32 0, .int .i32 0]) 2 8 Try.underlying86 hif hz0 hz1 hz2 rfl (by omega) _ c.length (runs2 c) rfl (own_below HA.out.1.two.r2 ((Below.refl _ _).alloc (Nat.le_refl _) _)) _ rfl 1 [.int .i32 u, .int .i32 v] (RdV.lit wb #[.int .i32 u, .int .i32 v] 84 1 2 1 rfl (by simp [Value.oneCell'])) (by have := HP.out.2.2.1; unfold maxLen; omega) (by have := HP.out.2.2.1; omega) (by have := HA.out.1.two.b.size; simp; omega) ?_; intro v' wc ho hg hn; have hA3 := Lib.hid ((HA.out.1.below ((Below.refl _ _).alloc (Nat.le_refl _) (.cells #[.int .i32 u, .int .i32 v] 84))).grow2 (y := (u, v)) ho hg hn); clear ho hg hn)
            go_roundg k1
            case measure => omega
            case rel =>
              have hq := HP.out.2
              have hq2 := HN.out
              exact Lib.hid ⟨i + 1, a, (x1, x2), c ++ [(u, v)], by go_num, by omega, HF.out, ⟨p1, p2, p3⟩, by omega, by simp; omega, hA3.out⟩
          · have e2 : decide (x2 + 1 < u) = false := by simpa using hc2
            have hF := HF.out
            rw [if_neg hc2] at hF
            have HF := Lib.hid hF
            have HC2 := Lib.hid hc2
            clear hF hc2
            go_wp2_with fail
            go_roundg k1
            case measure => omega
            case rel =>
              have hq := HP.out.2
              have hq2 := HN.out
              exact Lib.hid ⟨i + 1, a, (min x1 u, max x2 v), c, by go_num, by omega, HF.out, ⟨by dsimp only; omega, by dsimp only; omega, by dsimp only; omega⟩, by omega, by omega, (HA.out.1.set (y := (min x1 u, x2)) 0 rfl).set 1 rfl⟩
      · have e0 : i = n := by omega
        subst e0
        rw [List.drop_of_length_le (by have := HN.out; omega), addF] at hF
        have hins := addF_ins l [] (lo, hi) 0 HS.out.2.1 h2
        rw [← hF] at hins
        dsimp only at hins
        rw [List.nil_append] at hins
        have hadd : R = a ++ (x1, x2) :: c := by rw [← HRR.out.1, addR, if_neg (by rw [HX.out.2]; decide), ← hins]
        have HADD := Lib.hid hadd
        have d1 := hA.hx.cell 0 rfl
        have d2 := hA.hx.cell 1 rfl
        have l2 := hA.hx.lt
        have hatr := HAT.out.below hA.two.b HAT.out.lt
        have HA := Lib.hid (And.intro hA hatr)
        have HL := Lib.hid (And.intro hla (And.intro hlc hll))
        obtain ⟨i0', hif, hz0, hz1, hz2⟩ := info_parts info_run
        clear hA hatr hF hins hadd hla hlc hll hik
        go_upto_region 14 with (fail)
        go_wp2_with (first
          | (at_builtin; refine wpList_append_any rfl (.tmp 57) (.tmp 59) 86 rfl w1.heap.size 84 i0' (.agg #[.int .i32 0, .int .i32 0]) 2 8 Try.underlying86 hif hz0 hz1 hz2 rfl (by omega) _ a.length (runs2 a) rfl (own_below HA.out.1.two.r1 ((Below.refl _ _).alloc (Nat.le_refl _) _)) _ rfl 1 [.int .i32 x1, .int .i32 x2] (RdV.lit wr #[.int .i32 x1, .int .i32 x2] 84 1 2 1 rfl (by simp [Value.oneCell'])) (by have := HL.out; unfold maxLen; omega) (by have := HL.out; omega) (by have := HA.out.1.two.b.size; simp; omega) ?_; intro v' wc ho hg hn; have hA3 := Lib.hid (And.intro ((HA.out.1.below ((Below.refl _ _).alloc (Nat.le_refl _) (.cells #[.int .i32 x1, .int .i32 x2] 84))).grow1 (y := (x1, x2)) ho hg hn) ((HA.out.2.alloc (.cells #[.int .i32 x1, .int .i32 x2] 84)).grown hg (own_off HA.out.1.two.r1 HA.out.2 (by decide)))); clear ho hg hn)
          | (at_builtin; refine wpList_append_any rfl (.tmp 60) (.tmp 61) 86 rfl w1.heap.size 84 i0' (.agg #[.int .i32 0, .int .i32 0]) 2 8 Try.underlying86 hif hz0 hz1 hz2 rfl (by omega) _ (a ++ [(x1, x2)]).length (runs2 (a ++ [(x1, x2)])) rfl hA3.out.1.two.r1 _ rfl c.length (runs2 c) (RdV.of_own hA3.out.1.two.r2 (runs2_one c)) (by have := HL.out; unfold maxLen; simp; omega) (by have := HL.out; simp; omega) (by have := hA3.out.1.two.b.size; omega) ?_; intro v2 wd ho2 hg2 _; have hat2 := hA3.out.2.grown hg2 (own_off hA3.out.1.two.r1 hA3.out.2 (by decide)); have hbd := hA3.out.1.two.b.grown hg2 hA3.out.1.two.b.size (fun k hk => (hA3.out.1.two.r1.lt k hk).1); rw [← runs2_append] at ho2; obtain ⟨A2, c2, rfl, hrd⟩ := RdR.of_own ho2; obtain ⟨L2, hL2⟩ : ∃ L2, (a ++ [(x1, x2)] ++ c).length = L2 := ⟨_, rfl⟩; rw [hL2]; have cg := hat2.cell 0 rfl; have fg := hat2.free 0; have H4 := Lib.hid (And.intro hrd (And.intro hat2 (And.intro hbd hL2))); clear ho2 hg2 hat2 hbd hL2 hrd))
        go_ret
        obtain ⟨hrd, hat2, hbd, hL2⟩ := H4.out
        have hk : Kpt (· = g) w (wd.setCell ⟨g, 0, none⟩ (.slice A2 L2 c2)) := by
          have k1 : Kpt (· = g) w w1 := Kpt.of_below HX.out.1
          exact ((k1.below hbd)).set (fun _ => rfl) _
        refine ⟨by rw [← HRR.out.2, HX.out.2]; rfl, ?_, hk⟩
        rw [HADD.out, show a ++ (x1, x2) :: c = a ++ [(x1, x2)] ++ c by simp]
        refine ⟨A2, c2, ?_, ?_⟩
        · rw [hL2]
          exact hat2.put rfl
        · exact hrd.kept (Kpt.set (Kpt.refl (· = g) _) (fun _ => rfl) _) fun b cs hb => hb.not hat2 (by decide)

end Go.Proofs.Ytdohfjidnbhfnaa.Sp

/- spans.Set[int32]: Runs, Len, Join. -/
namespace Go.Proofs.Ytdohfjidnbhfnaa.Sp
open Go Go.RowKit Go.Proofs.Ytdohfjidnbhfnaa.Mem Go.Proofs.Ytdohfjidnbhfnaa.Lw Go.Proofs.YtdohfjidnbhfnaaW.PrintWords Go.Proofs.YtdohfjidnbhfnaaW.PrintLast
attribute [local go_sem ↓] Go.wp_at_zero Go.wp_at_succ
set_option linter.unusedSimpArgs false
set_option linter.unusedVariables false

theorem RdR.rdV {w : World} {a : Addr} {c : Nat} {l : List (Int × Int)} (h : RdR w (some a) l) : RdV w (.slice (some a) l.length c) l.length 2 (runs2 l) := by
  refine ⟨runs2_length l, runs2_one l, .inr ⟨a, c, rfl, fun j u hu => ?_⟩⟩
  have hj : j < (runs2 l).length := (List.getElem?_eq_some_iff.1 hu).1
  rw [runs2_length] at hj
  obtain ⟨⟨p, q⟩, hpq⟩ : ∃ r, l[j / 2]? = some r := ⟨_, List.getElem?_eq_getElem (by omega)⟩
  obtain ⟨b, cs, e1, e2, e3, e4⟩ := h (j / 2) p q hpq
  obtain ⟨r1, r2⟩ := runs2_at l (j / 2) p q hpq
  cases e1
  rw [add_plain]
  rcases Nat.mod_two_eq_zero_or_one j with hm | hm
  · have ej : j / 2 * 2 = j := by omega
    rw [ej] at e3 r1
    rw [r1] at hu
    cases hu
    exact e2.cell j e3
  · have ej : j / 2 * 2 + 1 = j := by omega
    rw [ej] at e4 r2
    rw [r2] at hu
    cases hu
    exact e2.cell j e4

set_option maxHeartbeats 4000000 in
theorem clone_calls (w : World) (A : Option Addr) (c : Nat) (l : List (Int × Int)) (hr : RdR w A l) (hl : l.length ≤ 1000000) :
    Calls Try.prog 53 #[.slice A l.length c] w fun e w' => (∃ A' c', e = .returned (.slice A' l.length c') ∧ RdR w' A' l ∧ w'.ownsRow w.heap.size 84 2 (.slice A' l.length c') l.length (runs2 l)) ∧ Below w.heap.size w w' := by
  cases A with
  | none =>
    obtain rfl : l = [] := by
      cases l with
      | nil => rfl
      | cons r l => obtain ⟨_, _, h, _⟩ := hr 0 r.1 r.2 rfl; cases h
    have hq := fun W => Lib.run_eql_slice_nil (P := Try.prog) W 86 84 none 0 c 0 0 Try.underlying86
    clear hr
    go_enter Try.func53, Try.ntmps53
    go_wp2
    go_ret
    exact ⟨⟨none, 0, rfl, RdR.nil _ _, World.ownsRow_nil _ _ _ _⟩, Below.refl _ _⟩
  | some a =>
    obtain ⟨n, hn⟩ : ∃ n, l.length = n := ⟨_, rfl⟩
    have hv := hr.rdV (c := c)
    rw [hn] at hv hl ⊢
    have hq := fun W => Lib.run_eql_slice_nil (P := Try.prog) W 86 84 (some a) n c 0 0 Try.underlying86
    have HV := Lib.hid hv
    have HN := Lib.hid hn
    obtain ⟨i0', hif, hz0, hz1, hz2⟩ := info_parts info_run
    clear hr hv hn
    go_enter Try.func53, Try.ntmps53
    go_wp2_with (at_builtin; refine wpList_append_any rfl _ _ 86 rfl w.heap.size 84 i0' (.agg #[.int .i32 0, .int .i32 0]) 2 8 Try.underlying86 hif hz0 hz1 hz2 rfl (by omega) _ 0 [] rfl (own_made rfl (Nat.le_refl _)) _ rfl n (runs2 l) (HV.out.below ((Below.refl _ _).alloc (Nat.le_refl _) _)) (by unfold maxLen; omega) (by omega) (by simp) ?_; intro v' wc ho hg hn; rw [List.nil_append, Nat.zero_add] at ho; have hb := ((Below.refl w.heap.size w).alloc (Nat.le_refl _) (.cells #[] 84)).grown hg (by simp) (fun k e => by cases e; exact Nat.le_refl _); have H4 := Lib.hid (And.intro ho hb); clear ho hb hg hn)
    go_ret
    obtain ⟨ho, hb⟩ := H4.out
    obtain ⟨A', c', rfl, hrd⟩ := RdR.of_own ho
    exact ⟨⟨A', c', by rw [HN.out]; rfl, hrd, by rw [HN.out] at ho; exact ho⟩, hb⟩

theorem runs_calls (w : World) (g : Nat) (l : List (Int × Int)) (hS : SetAt w g l) (hl : Ok l) :
    Calls Try.prog 40 #[.pointer (some ⟨g, 0, none⟩)] w fun e w' => (∃ A' c', e = .returned (.slice A' l.length c') ∧ RdR w' A' l ∧ w'.ownsRow w.heap.size 84 2 (.slice A' l.length c') l.length (runs2 l)) ∧ Below w.heap.size w w' := by
  obtain ⟨A, c, hat, hr⟩ := hS
  have c0 := hat.cell 0 rfl
  have HC := Lib.hid (clone_calls w A c l hr hl.len)
  clear hat hr hl
  go_enter Try.func40, Try.ntmps40
  go_wp2_with fail
  refine HC.out.mono ?_
  rintro e w1 ⟨⟨A', c', rfl, h1, h2⟩, h3⟩
  have H := Lib.hid (And.intro h1 (And.intro h2 h3))
  clear h1 h2 h3
  go_wp2
  go_ret
  exact ⟨⟨A', c', rfl, H.out.1, H.out.2.1⟩, H.out.2.2⟩

theorem len_calls (w : World) (g : Nat) (l : List (Int × Int)) (hS : SetAt w g l) :
    Calls Try.prog 39 #[.pointer (some ⟨g, 0, none⟩)] w fun e w' => e = .returned (.int .i64 (l.length : Int)) ∧ w' = w := by
  obtain ⟨A, c, hat, hr⟩ := hS
  have c0 := hat.cell 0 rfl
  clear hat hr
  go_enter Try.func39, Try.ntmps39
  go_wp2
  go_ret
  exact ⟨rfl, rfl⟩

def JRel (w1 : World) (g : Nat) (t R : List (Int × Int)) (kq : Nat) (v5 v11 : Value) (W : World) : Prop :=
  ∃ (i : Nat) (b : Bool) (l : List (Int × Int)), v5 = .bool b ∧ v11 = .int .i64 (i : Int) ∧ i + kq = t.length ∧ joinR l (t.drop i) = R ∧ Ok l ∧ SetAt W g l ∧ Kpt (· = g) w1 W

set_option maxHeartbeats 4000000 in
theorem join_calls (w : World) (g g' : Nat) (l t : List (Int × Int)) (hS : SetAt w g l) (hl : Ok l) (hT : SetAt w g' t) (ht : Ok t) :
    Calls Try.prog 25 #[.pointer (some ⟨g, 0, none⟩), .pointer (some ⟨g', 0, none⟩)] w fun e w' => (∃ b, e = .returned (.bool b)) ∧ SetAt w' g (joinR l t) ∧ Kpt (· = g) w w' := by
  have HC := Lib.hid (runs_calls w g' t hT ht)
  obtain ⟨R, hR⟩ : ∃ R, joinR l t = R := ⟨_, rfl⟩
  rw [hR]
  have HS := Lib.hid (And.intro hS (And.intro hl (And.intro ht hR)))
  clear hS hl hT ht hR
  go_enter Try.func25, Try.ntmps25
  go_wp2_with fail
  refine HC.out.mono ?_
  clear HC
  rintro e w1 ⟨⟨A', c', rfl, h1, h2⟩, h3⟩
  have H := Lib.hid (And.intro h1 h3)
  obtain ⟨n, hn⟩ : ∃ n, t.length = n := ⟨_, rfl⟩
  rw [hn]
  have hA0 : Hid (JRel w1 g t R n (.bool false) (.int .i64 0) w1) := Lib.hid ⟨0, false, l, rfl, rfl, by omega, HS.out.2.2.2, HS.out.2.1, HS.out.1.below h3, Kpt.refl _ _⟩
  have HN := Lib.hid hn
  clear h1 h2 h3 hn
  go_wp2_with fail
  go_loopg [5, 11] n (fun kq v5 v11 w' => Hid (JRel w1 g t R kq v5 v11 w'))
  case atStart => exact hA0
  case round =>
    clear hA0
    obtain ⟨i, b, l1, rfl, rfl, hik, hj, hok, hS1, hk⟩ := hrel.out
    clear hrel
    have hll := HS.out.2.2.1.len
    rw [HN.out] at hik hll
    by_cases hin : i < n
    · obtain ⟨k1, rfl⟩ : ∃ k1, gk = k1 + 1 := ⟨gk - 1, by omega⟩
      have hit : i < t.length := by rw [HN.out]; exact hin
      obtain ⟨⟨u, v⟩, huv⟩ : ∃ r, t[i]? = some r := ⟨_, List.getElem?_eq_getElem hit⟩
      obtain ⟨o1, o2, o3⟩ := HS.out.2.2.1.at (List.mem_of_getElem? huv)
      dsimp only at o1 o2 o3
      have hrd := H.out.1.kept hk (fun b' cs hb' => by obtain ⟨_, _, hq, _⟩ := HS.out.1.below H.out.2; exact hb'.not hq (by decide))
      obtain ⟨b', cs, rfl, hbb, hu, hv⟩ := hrd i u v huv
      rw [List.drop_eq_getElem_cons hit, joinR, show t[i] = (u, v) by rw [List.getElem?_eq_getElem hit] at huv; exact Option.some.inj huv] at hj
      dsimp only at hj
      have cu := hbb.cell _ hu
      have cv := hbb.cell _ hv
      have l1' := hbb.lt
      have n1 := Nat.ne_of_lt l1'
      have i0 : (0 : Int) ≤ (i : Int) := by omega
      have i1 : (i : Int) < (n : Int) := by omega
      have i2 : (n : Int) ≤ 1000000 := by omega
      have HP := Lib.hid (And.intro hj (And.intro hok (And.intro hS1 (And.intro hk hik))))
      clear hj hok hS1 hk hik hbb hu hv huv hin hit hrd
      go_wp2_with fail
      refine (add_calls _ g u v l1 (HP.out.2.2.1.alloc _) HP.out.2.1 o1 o2 o3).mono ?_
      rintro e w2 ⟨rfl, hS2, hk2⟩
      have H2 := Lib.hid (And.intro hS2 (HP.out.2.2.2.1.alloc (.cells #[.int .i32 u, .int .i32 v] 84) |>.trans' hk2 (fun _ _ => id)))
      clear hS2 hk2
      by_cases hh : holdsB l1 u v = true
      · go_wp2_with fail
        go_roundg k1
        case measure => omega
        case rel => exact Lib.hid ⟨i + 1, b, addR l1 u v, rfl, by go_num, by have := HP.out.2.2.2.2; have := HN.out; omega, HP.out.1, HP.out.2.1.add o1 o2 o3, H2.out.1, H2.out.2⟩
      · replace hh := eq_false_of_ne_true hh
        go_wp2_with fail
        go_roundg k1
        case measure => omega
        case rel => exact Lib.hid ⟨i + 1, true, addR l1 u v, rfl, by go_num, by have := HP.out.2.2.2.2; have := HN.out; omega, HP.out.1, HP.out.2.1.add o1 o2 o3, H2.out.1, H2.out.2⟩
    · rw [List.drop_of_length_le (by have := HN.out; omega), joinR] at hj
      subst hj
      have i0 : (n : Int) ≤ (i : Int) := by omega
      have HP := Lib.hid (And.intro hS1 hk)
      clear hS1 hk hik hin hok
      go_wp2_with fail
      go_ret
      exact ⟨⟨b, rfl⟩, HP.out.1, (Kpt.of_below H.out.2).trans HP.out.2⟩

end Go.Proofs.Ytdohfjidnbhfnaa.Sp

/- cover.Cover in memory; its small functions. -/
namespace Go.Proofs.Ytdohfjidnbhfnaa.Cv
open Go Go.RowKit Go.Proofs.Ytdohfjidnbhfnaa.Mem Go.Proofs.Ytdohfjidnbhfnaa.Sp
attribute [local go_sem ↓] Go.wp_at_zero Go.wp_at_succ
set_option linter.unusedSimpArgs false
set_option linter.unusedVariables false

structure Nd where
  par : Int
  post : Int
  low : Int
  lab : Option Nat
def labV : Option Nat → Value
  | none => .pointer none
  | some g => .pointer (some ⟨g, 0, none⟩)
def nd4 (x : Nd) : List Value := [.int .i64 x.par, .int .i64 x.post, .int .i64 x.low, labV x.lab]
def nds (l : List Nd) : List Value := l.flatMap nd4
theorem nds_cons (x : Nd) (l : List Nd) : nds (x :: l) = .int .i64 x.par :: .int .i64 x.post :: .int .i64 x.low :: labV x.lab :: nds l := rfl
theorem nds_length : ∀ l : List Nd, (nds l).length = l.length * 4
  | [] => rfl
  | x :: l => by rw [nds_cons]; simp only [List.length_cons, nds_length l]; omega
theorem nds_at : ∀ (l : List Nd) (j : Nat) (x : Nd), l[j]? = some x → (nds l)[j * 4]? = some (.int .i64 x.par) ∧ (nds l)[j * 4 + 1]? = some (.int .i64 x.post) ∧ (nds l)[j * 4 + 2]? = some (.int .i64 x.low) ∧ (nds l)[j * 4 + 3]? = some (labV x.lab)
  | [], j, x, h => by simp at h
  | y :: l, 0, x, h => by
    cases h
    exact ⟨rfl, rfl, rfl, rfl⟩
  | y :: l, j + 1, x, h => by
    have := nds_at l j x (by simpa using h)
    rw [nds_cons, show (j + 1) * 4 = j * 4 + 4 by omega]
    exact this
theorem nds_set : ∀ (l : List Nd) (j f : Nat) (v : Value) (x y : Nd), l[j]? = some x → f < 4 → (nd4 x).set f v = nd4 y → (nds l).set (j * 4 + f) v = nds (l.set j y)
  | [], j, f, v, x, y, h, _, _ => by simp at h
  | z :: l, 0, f, v, x, y, h, hf, e => by
    cases h
    have e1 : nds (z :: l) = nd4 z ++ nds l := rfl
    have e2 : nds ((z :: l).set 0 y) = nd4 y ++ nds l := rfl
    rw [e1, e2, ← e, Nat.zero_mul, Nat.zero_add, List.set_append, if_pos (by show f < 4; exact hf)]
  | z :: l, j + 1, f, v, x, y, h, hf, e => by
    have := nds_set l j f v x y (by simpa using h) hf e
    have e1 : nds (z :: l) = nd4 z ++ nds l := rfl
    have e2 : nds ((z :: l).set (j + 1) y) = nd4 z ++ nds (l.set j y) := rfl
    have e3 : (nd4 z).length = 4 := rfl
    rw [e1, e2, List.set_append, if_neg (by rw [e3]; omega), e3, show (j + 1) * 4 + f - 4 = j * 4 + f by omega, this]
structure CovS (w : World) (gc gn ga n : Nat) (nd : List Nd) (al : List Int) : Prop where
  hc : At w gc [.slice (some ⟨gn, 0, none⟩) n n, .slice (some ⟨ga, 0, none⟩) (n + 1) (n + 1)] 65
  hn : At w gn (nds nd) 62
  ha : At w ga (ints al) 3
  ln : nd.length = n
  la : al.length = n + 1
theorem CovS.kept {p : Nat → Prop} {w w' : World} {gc gn ga n : Nat} {nd : List Nd} {al : List Int} (h : CovS w gc gn ga n nd al) (hk : Kpt p w w') (h1 : ¬ p gc) (h2 : ¬ p gn) (h3 : ¬ p ga) : CovS w' gc gn ga n nd al :=
  ⟨h.hc.kept hk h1, h.hn.kept hk h2, h.ha.kept hk h3, h.ln, h.la⟩
theorem CovS.below {w w' : World} {gc gn ga n : Nat} {nd : List Nd} {al : List Int} (h : CovS w gc gn ga n nd al) (hb : Below w.heap.size w w') : CovS w' gc gn ga n nd al :=
  h.kept (Kpt.of_below (p := fun _ => False) hb) id id id

set_option maxHeartbeats 4000000 in
theorem is_calls {w : World} {gc gn ga n : Nat} {nd : List Nd} {al : List Int} (h : CovS w gc gn ga n nd al) (v : Int) (hn : n ≤ 1000000) :
    Calls Try.prog 24 #[.pointer (some ⟨gc, 0, none⟩), .int .i64 v] w fun e w' => e = .returned (.bool (decide (0 ≤ v ∧ v < n))) ∧ w' = w := by
  have c0 := h.hc.cell 0 rfl
  clear h
  obtain ⟨b, hb⟩ : ∃ b, decide (0 ≤ v ∧ v < (n : Int)) = b := ⟨_, rfl⟩
  rw [hb]
  have HB := Lib.hid hb
  clear hb
  by_cases h1 : 0 ≤ v
  · have e1 : decide (v ≥ 0) = true := by simpa using h1
    by_cases h2 : v < n
    · have e2 : decide (v < (n : Int)) = true := by simpa using h2
      have HX := Lib.hid (And.intro h1 h2)
      clear h1 h2
      go_enter Try.func24, Try.ntmps24
      go_wp2
      go_ret
      exact ⟨by rw [← HB.out, decide_eq_true HX.out]; rfl, rfl⟩
    · have e2 : decide (v < (n : Int)) = false := by simpa using h2
      have HX := Lib.hid h2
      clear h1 h2
      go_enter Try.func24, Try.ntmps24
      go_wp2
      go_ret
      exact ⟨by rw [← HB.out, decide_eq_false (by have := HX.out; omega)]; rfl, rfl⟩
  · have e1 : decide (v ≥ 0) = false := by simpa using h1
    have HX := Lib.hid h1
    clear h1
    go_enter Try.func24, Try.ntmps24
    go_wp2
    go_ret
    exact ⟨by rw [← HB.out, decide_eq_false (by have := HX.out; omega)]; rfl, rfl⟩
theorem is_yes {w : World} {gc gn ga n : Nat} {nd : List Nd} {al : List Int} (h : CovS w gc gn ga n nd al) (v : Nat) (hn : n ≤ 1000000) (hv : v < n) :
    Calls Try.prog 24 #[.pointer (some ⟨gc, 0, none⟩), .int .i64 v] w fun e w' => e = .returned (.bool true) ∧ w' = w :=
  (is_calls h v hn).mono fun e w' ⟨h1, h2⟩ => ⟨by rw [h1, decide_eq_true (by omega)], h2⟩
theorem is_no {w : World} {gc gn ga n : Nat} {nd : List Nd} {al : List Int} (h : CovS w gc gn ga n nd al) (v : Int) (hn : n ≤ 1000000) (hv : ¬ (0 ≤ v ∧ v < n)) :
    Calls Try.prog 24 #[.pointer (some ⟨gc, 0, none⟩), .int .i64 v] w fun e w' => e = .returned (.bool false) ∧ w' = w :=
  (is_calls h v hn).mono fun e w' ⟨h1, h2⟩ => ⟨by rw [h1, decide_eq_false hv], h2⟩

theorem len_calls {w : World} {gc gn ga n : Nat} {nd : List Nd} {al : List Int} (h : CovS w gc gn ga n nd al) :
    Calls Try.prog 13 #[.pointer (some ⟨gc, 0, none⟩)] w fun e w' => e = .returned (.int .i64 n) ∧ w' = w := by
  have c0 := h.hc.cell 0 rfl
  clear h
  go_enter Try.func13, Try.ntmps13
  go_wp2
  go_ret
  exact ⟨rfl, rfl⟩

set_option maxHeartbeats 4000000 in
theorem par_calls {w : World} {gc gn ga n : Nat} {nd : List Nd} {al : List Int} (h : CovS w gc gn ga n nd al) (v : Nat) (x : Nd) (hx : nd[v]? = some x) (hn : n ≤ 1000000) :
    Calls Try.prog 21 #[.pointer (some ⟨gc, 0, none⟩), .int .i64 v] w fun e w' => e = .returned (.int .i64 x.par) ∧ w' = w := by
  have hv : v < n := by rw [← h.ln]; exact (List.getElem?_eq_some_iff.1 hx).1
  have c0 := h.hc.cell 0 rfl
  have c1 := h.hn.cell _ (nds_at nd v x hx).1
  have i0 : (0 : Int) ≤ (v : Int) := by omega
  have i1 : (v : Int) < (n : Int) := by omega
  have i2 : (n : Int) ≤ 1000000 := by omega
  have HI := Lib.hid (is_yes h v hn hv)
  clear h hv hx
  go_enter Try.func21, Try.ntmps21
  go_wp2_with fail
  refine HI.out.mono ?_
  rintro e w' ⟨rfl, rfl⟩
  go_wp2
  go_ret
  exact ⟨rfl, rfl⟩
set_option maxHeartbeats 4000000 in
theorem par_no {w : World} {gc gn ga n : Nat} {nd : List Nd} {al : List Int} (h : CovS w gc gn ga n nd al) (v : Int) (hn : n ≤ 1000000) (hv : ¬ (0 ≤ v ∧ v < n)) :
    Calls Try.prog 21 #[.pointer (some ⟨gc, 0, none⟩), .int .i64 v] w fun e w' => e = .returned (.int .i64 (-1)) ∧ w' = w := by
  have HI := Lib.hid (is_no h v hn hv)
  clear h hv
  go_enter Try.func21, Try.ntmps21
  go_wp2_with fail
  refine HI.out.mono ?_
  rintro e w' ⟨rfl, rfl⟩
  go_wp2
  go_ret
  exact ⟨rfl, rfl⟩

set_option maxHeartbeats 4000000 in
theorem post_calls {w : World} {gc gn ga n : Nat} {nd : List Nd} {al : List Int} (h : CovS w gc gn ga n nd al) (v : Nat) (x : Nd) (hx : nd[v]? = some x) (hn : n ≤ 1000000) :
    Calls Try.prog 20 #[.pointer (some ⟨gc, 0, none⟩), .int .i64 v] w fun e w' => e = .returned (.int .i64 x.post) ∧ w' = w := by
  have hv : v < n := by rw [← h.ln]; exact (List.getElem?_eq_some_iff.1 hx).1
  have c0 := h.hc.cell 0 rfl
  have c1 := h.hn.cell _ (nds_at nd v x hx).2.1
  have i0 : (0 : Int) ≤ (v : Int) := by omega
  have i1 : (v : Int) < (n : Int) := by omega
  have i2 : (n : Int) ≤ 1000000 := by omega
  have HI := Lib.hid (is_yes h v hn hv)
  clear h hv hx
  go_enter Try.func20, Try.ntmps20
  go_wp2_with fail
  refine HI.out.mono ?_
  rintro e w' ⟨rfl, rfl⟩
  go_wp2
  go_ret
  exact ⟨rfl, rfl⟩
set_option maxHeartbeats 4000000 in
theorem post_no {w : World} {gc gn ga n : Nat} {nd : List Nd} {al : List Int} (h : CovS w gc gn ga n nd al) (v : Int) (hn : n ≤ 1000000) (hv : ¬ (0 ≤ v ∧ v < n)) :
    Calls Try.prog 20 #[.pointer (some ⟨gc, 0, none⟩), .int .i64 v] w fun e w' => e = .returned (.int .i64 (0)) ∧ w' = w := by
  have HI := Lib.hid (is_no h v hn hv)
  clear h hv
  go_enter Try.func20, Try.ntmps20
  go_wp2_with fail
  refine HI.out.mono ?_
  rintro e w' ⟨rfl, rfl⟩
  go_wp2
  go_ret
  exact ⟨rfl, rfl⟩

set_option maxHeartbeats 4000000 in
theorem low_calls {w : World} {gc gn ga n : Nat} {nd : List Nd} {al : List Int} (h : CovS w gc gn ga n nd al) (v : Nat) (x : Nd) (hx : nd[v]? = some x) (hn : n ≤ 1000000) :
    Calls Try.prog 19 #[.pointer (some ⟨gc, 0, none⟩), .int .i64 v] w fun e w' => e = .returned (.int .i64 x.low) ∧ w' = w := by
  have hv : v < n := by rw [← h.ln]; exact (List.getElem?_eq_some_iff.1 hx).1
  have c0 := h.hc.cell 0 rfl
  have c1 := h.hn.cell _ (nds_at nd v x hx).2.2.1
  have i0 : (0 : Int) ≤ (v : Int) := by omega
  have i1 : (v : Int) < (n : Int) := by omega
  have i2 : (n : Int) ≤ 1000000 := by omega
  have HI := Lib.hid (is_yes h v hn hv)
  clear h hv hx
  go_enter Try.func19, Try.ntmps19
  go_wp2_with fail
  refine HI.out.mono ?_
  rintro e w' ⟨rfl, rfl⟩
  go_wp2
  go_ret
  exact ⟨rfl, rfl⟩
set_option maxHeartbeats 4000000 in
theorem low_no {w : World} {gc gn ga n : Nat} {nd : List Nd} {al : List Int} (h : CovS w gc gn ga n nd al) (v : Int) (hn : n ≤ 1000000) (hv : ¬ (0 ≤ v ∧ v < n)) :
    Calls Try.prog 19 #[.pointer (some ⟨gc, 0, none⟩), .int .i64 v] w fun e w' => e = .returned (.int .i64 (0)) ∧ w' = w := by
  have HI := Lib.hid (is_no h v hn hv)
  clear h hv
  go_enter Try.func19, Try.ntmps19
  go_wp2_with fail
  refine HI.out.mono ?_
  rintro e w' ⟨rfl, rfl⟩
  go_wp2
  go_ret
  exact ⟨rfl, rfl⟩


set_option maxHeartbeats 4000000 in
theorem node_calls {w : World} {gc gn ga n : Nat} {nd : List Nd} {al : List Int} (h : CovS w gc gn ga n nd al) (p : Nat) (x : Int) (hx : al[p]? = some x) (h1 : 1 ≤ p) (hn : n ≤ 1000000) :
    Calls Try.prog 22 #[.pointer (some ⟨gc, 0, none⟩), .int .i64 p] w fun e w' => e = .returned (.int .i64 x) ∧ w' = w := by
  have hp : p < n + 1 := by rw [← h.la]; exact (List.getElem?_eq_some_iff.1 hx).1
  obtain ⟨m, hm⟩ : ∃ m, n + 1 = m := ⟨_, rfl⟩
  have c1 := h.hc.cell 1 rfl
  have c2 := h.ha.cell p (Mem.ints_at al hx)
  rw [hm] at c1
  have e1 : decide ((p : Int) < 1) = false := by simp; omega
  have e2 : decide ((p : Int) ≥ (m : Int)) = false := by simp; omega
  have i0 : (0 : Int) ≤ (p : Int) := by omega
  have i1 : (p : Int) < (m : Int) := by omega
  have i2 : (m : Int) ≤ 1000001 := by omega
  clear h hx hp hm h1 hn
  go_enter Try.func22, Try.ntmps22
  go_wp2
  go_ret
  exact ⟨rfl, rfl⟩
set_option maxHeartbeats 4000000 in
theorem node_no {w : World} {gc gn ga n : Nat} {nd : List Nd} {al : List Int} (h : CovS w gc gn ga n nd al) (p : Int) (h1 : p < 1 ∨ (n : Int) + 1 ≤ p) (hn : n ≤ 1000000) :
    Calls Try.prog 22 #[.pointer (some ⟨gc, 0, none⟩), .int .i64 p] w fun e w' => e = .returned (.int .i64 (-1)) ∧ w' = w := by
  obtain ⟨m, hm⟩ : ∃ m, n + 1 = m := ⟨_, rfl⟩
  have c1 := h.hc.cell 1 rfl
  rw [hm] at c1
  by_cases h2 : p < 1
  · have e1 : decide (p < 1) = true := by simpa using h2
    clear h h1 hm hn h2
    go_enter Try.func22, Try.ntmps22
    go_wp2
    go_ret
    exact ⟨rfl, rfl⟩
  · have e1 : decide (p < 1) = false := by simpa using h2
    have e2 : decide (p ≥ (m : Int)) = true := by simp; omega
    clear h h1 hm hn h2
    go_enter Try.func22, Try.ntmps22
    go_wp2
    go_ret
    exact ⟨rfl, rfl⟩

end Go.Proofs.Ytdohfjidnbhfnaa.Cv
