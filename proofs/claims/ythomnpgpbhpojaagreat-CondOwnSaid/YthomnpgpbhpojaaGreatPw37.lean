/- Arcs of the index. -/
import Derived.Test.YthomnpgpbhpojaaGreatPw36
import Derived.Test.YthomnpgpbhpojaaGreatPw33
namespace Go.Proofs.YthomnpgpbhpojaaGreat.Cd
open Go Go.RowKit Go.MapKept Go.Proofs.YthomnpgpbhpojaaGreat.Mem Go.Proofs.YthomnpgpbhpojaaGreat.Sl Go.Proofs.YthomnpgpbhpojaaGreat.Scc Go.Proofs.YthomnpgpbhpojaaGreat.Tj Go.Proofs.YthomnpgpbhpojaaGreat.Lw Go.Proofs.YthomnpgpbhpojaaGreat.Pt Go.Proofs.YthomnpgpbhpojaaGreatW.PrintWords Go.Proofs.YthomnpgpbhpojaaGreatW.PrintLast
attribute [local go_sem ↓] Go.wp_at_zero Go.wp_at_succ
set_option linter.unusedSimpArgs false
set_option linter.unusedVariables false

set_option maxHeartbeats 4000000 in
theorem compact_short (w : World) (A : Option Addr) (n c : Nat) (hn : n < 2) : Calls Tryz.prog 34 #[.slice A n c] w fun e w' => e = .returned (.slice A n c) ∧ w' = w := by
  have i2 : (n : Int) < 2 := by omega
  clear hn
  go_enter Tryz.func34, Tryz.ntmps34
  go_wp2
  go_ret
  exact ⟨rfl, rfl⟩
section
variable {w w' : World} {gc ga go gi gp gm : Nat} {lk : Int} {arcs : Int → Option (Int × Int)} {ob ib : Int → Nat} {cls : Int → Option Nat} {row : Nat → List Int} {val : Nat → Value} {tg : Nat → Nat × Int} {pb cb : Nat → Prop}
theorem arF_iff {e : Int} {x : Value} : arF arcs e = some x ↔ ∃ p, arcs e = some p ∧ x = aV p := by
  unfold arF
  cases h : arcs e with
  | none => simp
  | some p => simp [eq_comm]
theorem squeeze_calls (W : World) (base n c : Nat) (A : Option Addr) (l : List (Int × Int)) (ho : W.ownsRow base 41 2 (.slice A n c) n (arcs2 l)) (hn : n ≤ 1000) :
    Calls Tryz.prog 30 #[.slice A n c, .func (.func 31) #[] #[]] W fun e W1 => e = .returned (.tuple #[]) ∧ Calls Tryz.prog 34 #[.slice A n c] W1 fun e W2 => ∃ u m, e = .returned u ∧ W2.ownsRow base 41 2 u m.length (arcs2 m) ∧ (∀ k, k < base → k < W.heap.size → W2.heap[k]? = W.heap[k]?) ∧ Kpt (fun k => base ≤ k) W W2 ∧ m.Pairwise alt ∧ m.length ≤ n ∧ ∀ x, x ∈ m ↔ x ∈ l := by
  have hl : l.length = n := by have := ho.1; rw [arcs2_length] at this; omega
  rcases Nat.eq_zero_or_pos n with h0 | h0
  · subst h0
    have hnil := List.length_eq_zero_iff.1 hl
    subst hnil
    refine (sortArcs_none W A c _).mono fun e W1 ⟨he, hw⟩ => ⟨he, ?_⟩
    subst hw
    exact (compact_short _ A 0 c (by omega)).mono fun e W2 ⟨he, hw⟩ => ⟨_, [], he, hw ▸ ho, fun k _ _ => by rw [hw], hw ▸ Kpt.refl _ _, List.Pairwise.nil, by simp, fun x => Iff.rfl⟩
  · obtain ⟨g, cap, hv, hb, _⟩ := ho.form h0
    cases hv
    refine (sortArcs_calls W base g n c l ho hn).mono fun e W1 ⟨he, m, hml, hmm, hms, hom, hk⟩ => ⟨he, ?_⟩
    refine (compactA_calls W1 base g n c m hom (by omega) hn).mono fun e W2 ⟨k, he, hkl, ho2, hk2⟩ => ⟨_, dd m, he, hkl ▸ ho2, fun k hk0 hk1 => ?_, (hk.mono fun k _ e => by omega).trans (hk2.mono fun k _ e => by omega), dd_up (R := alt) (fun _ _ _ h1 h2 => alt_trans h1 h2) m hms, (by have := dd_len m; omega), fun x => (dd_mem m x).trans (hmm x)⟩
    rw [hk2.block k (by have := hk.size; omega) (by omega), hk.block k hk1 (by omega)]
set_option maxHeartbeats 8000000 in
set_option maxRecDepth 100000 in
theorem cArcs (h : CdS w gc ga go gi gp gm lk arcs ob ib cls row val tg pb cb) (hrl : ∀ v b, cls v = some b → (row b).length ≤ 500000) :
    Calls Tryz.prog 11 #[.pointer (some ⟨gc, 0, none⟩)] w fun e w' => ∃ u l, e = .returned u ∧ w'.ownsRow w.heap.size 41 2 u l.length (arcs2 l) ∧ Below w.heap.size w w' ∧ l.Pairwise alt ∧ l.length ≤ 1000 ∧ ∀ x, x ∈ l ↔ ∃ e a b, arcs e = some (a, b) ∧ x = (headV cls row a, headV cls row b) ∧ headV cls row a ≠ headV cls row b := by
  obtain ⟨i1, hi1, hz1, hs1, hy1⟩ := info_parts Lw.info_arc
  obtain ⟨K, hK, hKm⟩ := h.fin
  have q0 := h.m.hc.cell 0 rfl
  obtain ⟨o, hrun, hMR⟩ := h.m.ha.range (P := Tryz.prog) Tryz.underlying45
  have HX := Lib.hid (And.intro hMR (And.intro hK hKm))
  have HB := Lib.hid ((Below.refl w.heap.size w).alloc (Nat.le_refl _) o)
  have HH := Lib.hid (fun (W : World) (hb : Below w.heap.size w W) (v : Int) => cHead (h.below hb) v hrl)
  clear h hK hKm hMR hrl
  go_enter Tryz.func11, Tryz.ntmps11
  go_wp2_with fail
  refine gen_world (fun W => MR W w.heap.size ga (arF arcs) [] ∧ Below w.heap.size w W) ⟨HX.out.1, HB.out⟩ ?_
  obtain ⟨r, hr⟩ : ∃ r, w.heap.size = r := ⟨_, rfl⟩
  have HR := Lib.hid hr
  rw [hr]
  rintro w1 ⟨hM, hb⟩
  rw [← hr] at hb
  have H1 := Lib.hid (And.intro hM hb)
  clear hM hb hr HB hrun q0
  have hdone : ∀ {W : World} {done : List Int}, MR W r ga (arF arcs) done → done.length ≤ K.length := fun hM => nodup_le hM.2.1 fun x hx => by
    obtain ⟨u, hu⟩ := hM.all x hx
    obtain ⟨p, hp, _⟩ := arF_iff.1 hu
    exact HX.out.2.2 x (by rw [hp]; simp)
  go_loopg [3] (K.length + 1) (fun kq v3 w' => Hid (∃ done l, done.length + kq = K.length + 1 ∧ l.length ≤ done.length ∧ MR w' r ga (arF arcs) done ∧ w'.ownsRow w.heap.size 41 2 v3 l.length (arcs2 l) ∧ Below w.heap.size w w' ∧ ∀ x, x ∈ l ↔ ∃ e ∈ done, ∃ a b, arcs e = some (a, b) ∧ x = (headV cls row a, headV cls row b) ∧ headV cls row a ≠ headV cls row b))
  case atStart => exact Lib.hid ⟨[], [], by simp, by simp, H1.out.1, World.ownsRow_nil _ _ _ _, H1.out.2, fun y => by simp⟩
  case round =>
    obtain ⟨done, l, hdk, hdl, hM, ho, hb, hl⟩ := hrel.out
    clear hrel H1
    have hdK := hdone hM
    have hK := HX.out.2.1
    rcases hM.next (P := Tryz.prog) 0 with ⟨hall, hnx⟩ | ⟨e, u, w2, hf, hnd, hnx, hM2, hg, hsz, hent⟩
    · have hmem : ∀ x, x ∈ l ↔ ∃ e a b, arcs e = some (a, b) ∧ x = (headV cls row a, headV cls row b) ∧ headV cls row a ≠ headV cls row b := fun x => by
        rw [hl x]
        constructor
        · rintro ⟨e, _, h⟩; exact ⟨e, h⟩
        · rintro ⟨e, a, b, h, h'⟩; exact ⟨e, hall e _ (arF_iff.2 ⟨_, h, rfl⟩), a, b, h, h'⟩
      obtain ⟨A, c, rfl⟩ := Lw.own_slice ho
      have hS := squeeze_calls wr w.heap.size l.length c A l ho (by omega)
      have HS := Lib.hid hS
      have HO := Lib.hid (And.intro hb (And.intro hmem (show l.length ≤ 1000 by omega)))
      obtain ⟨n, hn⟩ : ∃ n, l.length = n := ⟨_, rfl⟩
      rw [hn] at HS HO ⊢
      clear hM ho hb hl hall hdK hdl hdk hmem hS hn
      go_wp2_with fail
      refine HS.out.mono ?_
      clear HS
      rintro e w3 ⟨rfl, hC⟩
      have HC := Lib.hid hC
      clear hC
      go_wp2_with fail
      refine HC.out.mono ?_
      clear HC
      rintro e w4 ⟨u, m, rfl, hom, hbk, hkp, hup, hml, hmm⟩
      have HZ := Lib.hid (show w4.ownsRow w.heap.size 41 2 u m.length (arcs2 m) ∧ Below w.heap.size w w4 ∧ m.Pairwise alt ∧ m.length ≤ 1000 ∧ ∀ x, x ∈ m ↔ ∃ e a b, arcs e = some (a, b) ∧ x = (headV cls row a, headV cls row b) ∧ headV cls row a ≠ headV cls row b from ⟨hom, HO.out.1.trans (hkp.to_below fun k hk => ⟨Nat.lt_of_lt_of_le hk HO.out.1.size, by omega⟩), hup, Nat.le_trans hml HO.out.2.2, fun x => (hmm x).trans (HO.out.2.1 x)⟩)
      clear hom hbk hkp hup hml hmm
      go_wp2
      go_ret
      exact ⟨_, m, rfl, HZ.out⟩
    · obtain ⟨k1, rfl⟩ : ∃ k1, gk = k1 + 1 := ⟨gk - 1, by omega⟩
      obtain ⟨⟨a, b⟩, hab, rfl⟩ := arF_iff.1 hf
      unfold aV at hnx hent
      have hb2 : Below w.heap.size w w2 := hb.grown hg hb.size (fun k hk => by cases hk; have := HR.out; omega)
      have ho2 : w2.ownsRow w.heap.size 41 2 u3 l.length (arcs2 l) := ho.kept hg (.inr fun e => mr_own hM ho e.symm)
      have hd2 := hdone hM2
      rw [List.length_append, List.length_singleton] at hd2
      have hll : l.length ≤ 1000 := by omega
      obtain ⟨hu, hhu⟩ : ∃ x, headV cls row a = x := ⟨_, rfl⟩
      obtain ⟨hv, hhv⟩ : ∃ x, headV cls row b = x := ⟨_, rfl⟩
      have hmem : ∀ x, (∃ e' ∈ done ++ [e], ∃ a b, arcs e' = some (a, b) ∧ x = (headV cls row a, headV cls row b) ∧ headV cls row a ≠ headV cls row b) ↔ (x ∈ l ∨ (x = (hu, hv) ∧ hu ≠ hv)) := fun x => by
        rw [hl x]
        constructor
        · rintro ⟨e', he', a', b', h1, h2⟩
          rcases List.mem_append.1 he' with h | h
          · exact .inl ⟨e', h, a', b', h1, h2⟩
          · obtain rfl : e' = e := by simpa using h
            rw [hab] at h1
            cases h1
            rw [hhu, hhv] at h2
            exact .inr h2
        · rintro (⟨e', h, h'⟩ | h)
          · exact ⟨e', by simp [h], h'⟩
          · exact ⟨e, by simp, a, b, hab, by rw [hhu, hhv]; exact h⟩
      have HN := Lib.hid (And.intro hmem (And.intro hdk hdl))
      have HM := Lib.hid (And.intro hM2 (And.intro ho2 hb2))
      clear hM ho hb hl hnd hM2 hg hsz ho2 hb2 hmem hf hdk hdl hdK hd2 hK hab
      go_upto_region 5 with (fail)
      refine gen_world (fun W => At W w2.heap.size [.int .i64 a, .int .i64 b] 41 ∧ MR W r ga (arF arcs) (done ++ [e]) ∧ W.ownsRow w.heap.size 41 2 u3 l.length (arcs2 l) ∧ Below w.heap.size w W) ?_ ?_
      · exact ⟨At.made rfl rfl, HM.out.1.below ((Below.refl _ _).alloc (Nat.le_refl _) _), Lw.own_below HM.out.2.1 ((Below.refl _ _).alloc (Nat.le_refl _) _), HM.out.2.2.alloc HM.out.2.2.size _⟩
      obtain ⟨g7, hg7⟩ : ∃ g7, w2.heap.size = g7 := ⟨_, rfl⟩
      rw [hg7]
      clear hg7 HM hnx hent
      rintro w3 ⟨hat, hM3, ho3, hb3⟩
      have qa := hat.cell 0 rfl
      have qb := hat.cell 1 rfl
      have hA1 := HH.out w3 hb3 a
      have hA2 := HH.out w3 hb3 b
      rw [hhu] at hA1
      rw [hhv] at hA2
      have HA1 := Lib.hid hA1
      have HA2 := Lib.hid hA2
      have HO := Lib.hid ho3
      have H3 := Lib.hid (And.intro hM3 hb3)
      clear hat hM3 ho3 hb3 hA1 hA2 hhu hhv
      go_wp2_with fail
      refine HA1.out.mono ?_
      clear HA1
      rintro e1 w4 ⟨rfl, hw4⟩
      obtain rfl : w3 = w4 := hw4.symm
      go_wp2_with fail
      refine HA2.out.mono ?_
      clear HA2
      rintro e2 w5 ⟨rfl, hw5⟩
      obtain rfl : w3 = w5 := hw5.symm
      by_cases huv : hu = hv
      · have HNN := Lib.hid (show ∃ done' l', done'.length + k1 = K.length + 1 ∧ l'.length ≤ done'.length ∧ MR w3 r ga (arF arcs) done' ∧ w3.ownsRow w.heap.size 41 2 u3 l'.length (arcs2 l') ∧ Below w.heap.size w w3 ∧ ∀ x, x ∈ l' ↔ ∃ e ∈ done', ∃ a b, arcs e = some (a, b) ∧ x = (headV cls row a, headV cls row b) ∧ headV cls row a ≠ headV cls row b from by
          obtain ⟨hmem, hdk, hdl⟩ := HN.out
          refine ⟨done ++ [e], l, by rw [List.length_append, List.length_singleton]; omega, by rw [List.length_append]; omega, H3.out.1, HO.out, H3.out.2, fun x => ?_⟩
          rw [hmem x]
          exact ⟨.inl, fun h => h.elim id fun h => absurd huv h.2⟩)
        subst huv
        clear qa qb
        go_wp2
        go_roundg k1
        case measure => omega
        case rel => exact HNN
      · clear qa qb
        go_wp2_with ((at_builtin; refine wpList_append_any rfl (.tmp 36) (.tmp 40) 38 rfl w.heap.size 41 i1 (.agg #[.int .i64 0, .int .i64 0]) 2 16 Tryz.underlying38 hi1 hz1 hs1 hy1 rfl (by omega) _ _ _ rfl (HO.out.alloc (.cells #[.int .i64 hu, .int .i64 hv] 41)) _ rfl 1 [.int .i64 hu, .int .i64 hv] (RdV.lit _ #[.int .i64 hu, .int .i64 hv] 41 1 2 1 rfl (by simp [Value.oneCell'])) (by unfold maxLen; omega) (by omega) (by have := H3.out.2.size; simp; omega) ?_; intro v5 w5 ho hg hn; have hMa := H3.out.1.below ((Below.refl _ _).alloc (Nat.le_refl _) (.cells #[.int .i64 hu, .int .i64 hv] 41)); have hm5 := hMa.move (w' := w5) (hg.block ga hMa.1.lt (hMa.1.own (HO.out.alloc (.cells #[.int .i64 hu, .int .i64 hv] 41)))) (hg.block r hMa.lt (mr_own hMa (HO.out.alloc (.cells #[.int .i64 hu, .int .i64 hv] 41)))); have hb5 := (H3.out.2.alloc H3.out.2.size (.cells #[.int .i64 hu, .int .i64 hv] 41)).grown hg (by have := H3.out.2.size; simp; omega) (fun k hk => (HO.out.lt k hk).1); have H5 := Lib.hid (And.intro ho (And.intro hm5 hb5)); clear ho hg hn hMa hm5 hb5))
        go_roundg k1
        case measure => omega
        case rel =>
          obtain ⟨ho, hm5, hb5⟩ := H5.out
          obtain ⟨hmem, hdk, hdl⟩ := HN.out
          refine Lib.hid ⟨done ++ [e], l ++ [(hu, hv)], by rw [List.length_append, List.length_singleton]; omega, by rw [List.length_append, List.length_append, List.length_singleton, List.length_singleton]; omega, hm5, by rw [List.length_append, arcs2_append]; exact ho, hb5, fun x => ?_⟩
          rw [hmem x, List.mem_append, List.mem_singleton]
          exact ⟨fun h => h.imp id fun h => ⟨h, huv⟩, fun h => h.imp id fun h => h.1⟩
end
end Go.Proofs.YthomnpgpbhpojaaGreat.Cd

/- Plain: the components' heads rise; lists of arcs that rise. -/
namespace Go.Proofs.YthomnpgpbhpojaaGreat.Cd
open Go Go.RowKit Go.Proofs.YthomnpgpbhpojaaGreat.Mem Go.Proofs.YthomnpgpbhpojaaGreat.Sl Go.Proofs.YthomnpgpbhpojaaGreat.Scc Go.Proofs.YthomnpgpbhpojaaGreat.Tj Go.Proofs.YthomnpgpbhpojaaGreat.Lw Go.Proofs.YthomnpgpbhpojaaGreat.Pt
set_option linter.unusedSimpArgs false
set_option linter.unusedVariables false

theorem fo_mem {l : List Nat} {m : Nat} (h : fo l 0 = some m) : ∀ (t q : Nat), t ≤ l.length → fo (l.take t) 0 = some q → ∀ c, c < q ↔ c ∈ l.take t
  | 0, q, _, hq, c => by
    rw [List.take_zero, fo] at hq
    cases hq
    simp
  | t + 1, q, ht, hq, c => by
    obtain ⟨q0, hq0⟩ := fo_take l 0 m t h
    obtain ⟨h1, h2, h3⟩ := fo_next l 0 m t q0 h hq0 (by omega)
    have ih := fo_mem h t q0 (by omega) hq0
    rw [h1] at hq
    rw [List.take_add_one, List.getElem?_eq_getElem (by omega), List.mem_append, ← ih c]
    simp only [Option.toList_some, List.mem_singleton]
    split at hq
    · rename_i hlt
      cases hq
      exact ⟨.inl, fun h => h.elim id fun e => e ▸ hlt⟩
    · rename_i hlt
      cases hq
      have : l[t] = q0 := by omega
      rw [this]
      omega
theorem ofL_rise {n m : Nat} {E : Nat → Nat → Prop} {comp : List Nat} {sl : List Int} {N : Int → Int → Prop} (hc : CompOf n E comp m) (hs : sl.Pairwise (· < ·)) (hn : sl.length = n) (hG : Grp sl N (ofL comp sl m)) :
    ∀ (i j : Nat) (a b : Int) (r s : List Int), i < j → (ofL comp sl m)[i]? = some (a :: r) → (ofL comp sl m)[j]? = some (b :: s) → a < b := fun i j a b r s hij hi hj => by
  obtain ⟨hlen, hfo, _⟩ := hc
  have hrow : ∀ (i : Nat) (l : List Int), (ofL comp sl m)[i]? = some l → l = grpZ comp sl i := fun i l h => by
    unfold ofL at h
    rw [List.getElem?_map] at h
    cases hx : (List.range m)[i]? with
    | none => rw [hx] at h; cases h
    | some v =>
      rw [hx] at h
      have := List.getElem?_eq_some_iff.1 hx
      obtain ⟨h1, h2⟩ := this
      rw [List.getElem_range] at h2
      subst h2
      simpa using h.symm
  have ei := hrow i _ hi
  have ej := hrow j _ hj
  have upi := hG.up _ (List.mem_of_getElem? hi)
  have upj := hG.up _ (List.mem_of_getElem? hj)
  rw [List.pairwise_cons] at upi upj
  obtain ⟨tb, hb1, hb2, hb3⟩ := (mem_grpZ comp sl j b (by omega)).1 (by rw [← ej]; simp)
  have hgd : ∀ t, (h : t < comp.length) → comp.getD t 0 = comp[t] := fun t h => by rw [List.getD_eq_getElem?_getD, List.getElem?_eq_getElem h]; rfl
  have hgs : ∀ t, (h : t < sl.length) → sl.getD t 0 = sl[t] := fun t h => by rw [List.getD_eq_getElem?_getD, List.getElem?_eq_getElem h]; rfl
  have hfirst : j ∉ comp.take tb := fun hx => by
    obtain ⟨t, ht, he⟩ := List.getElem_of_mem hx
    rw [List.length_take] at ht
    rw [List.getElem_take] at he
    have hm : sl.getD t 0 ∈ grpZ comp sl j := (mem_grpZ comp sl j _ (by omega)).2 ⟨t, by omega, by rw [hgd t (by omega), he], rfl⟩
    rw [← ej] at hm
    have hlt : sl.getD t 0 < b := by
      rw [← hb3, hgs t (by omega), hgs tb (by omega)]
      exact List.pairwise_iff_getElem.1 hs t tb (by omega) (by omega) (by omega)
    rcases List.mem_cons.1 hm with h | h
    · omega
    · have := upj.1 _ h
      omega
  obtain ⟨q, hq⟩ := fo_take comp 0 m tb hfo
  obtain ⟨_, h2, _⟩ := fo_next comp 0 m tb q hfo hq hb1
  have hmem := fo_mem hfo tb q (by omega) hq
  rw [hgd tb hb1] at hb2
  have hqj : q = j := by
    have := mt (hmem j).1 hfirst
    omega
  obtain ⟨t, ht, he⟩ := List.getElem_of_mem ((hmem i).1 (by omega))
  rw [List.length_take] at ht
  rw [List.getElem_take] at he
  have hm : sl.getD t 0 ∈ grpZ comp sl i := (mem_grpZ comp sl i _ (by omega)).2 ⟨t, by omega, by rw [hgd t (by omega), he], rfl⟩
  rw [← ei] at hm
  have hlt : sl.getD t 0 < b := by
    rw [← hb3, hgs t (by omega), hgs tb (by omega)]
    exact List.pairwise_iff_getElem.1 hs t tb (by omega) (by omega) (by omega)
  rcases List.mem_cons.1 hm with h | h
  · omega
  · have := upi.1 _ h
    omega
theorem alt_irrefl (x : Int × Int) : ¬ alt x x := by unfold alt; omega
theorem alt_ext : ∀ {a b : List (Int × Int)}, a.Pairwise alt → b.Pairwise alt → (∀ x, x ∈ a ↔ x ∈ b) → a = b
  | [], [], _, _, _ => rfl
  | [], y :: b, _, _, h => absurd ((h y).2 (by simp)) (by simp)
  | x :: a, [], _, _, h => absurd ((h x).1 (by simp)) (by simp)
  | x :: a, y :: b, h1, h2, h => by
    rw [List.pairwise_cons] at h1 h2
    have e : x = y := by
      rcases List.mem_cons.1 ((h x).1 (by simp)) with e | e
      · exact e
      · rcases List.mem_cons.1 ((h y).2 (by simp)) with e' | e'
        · exact e'.symm
        · exact absurd (alt_trans (h1.1 y e') (h2.1 x e)) (alt_irrefl x)
    subst e
    rw [alt_ext h1.2 h2.2 fun z => ?_]
    constructor
    · intro hz
      rcases List.mem_cons.1 ((h z).1 (by simp [hz])) with e | e
      · exact absurd (e ▸ h1.1 z hz) (alt_irrefl x)
      · exact e
    · intro hz
      rcases List.mem_cons.1 ((h z).2 (by simp [hz])) with e | e
      · exact absurd (e ▸ h2.1 z hz) (alt_irrefl x)
      · exact e
end Go.Proofs.YthomnpgpbhpojaaGreat.Cd
