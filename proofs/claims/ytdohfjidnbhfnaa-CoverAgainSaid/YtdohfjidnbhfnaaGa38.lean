/- CoverAgain, walked. -/
import Derived.Test.YtdohfjidnbhfnaaGa37
namespace Go.Proofs.Ytdohfjidnbhfnaa.Lc
open Go Go.RowKit Go.Proofs.Ytdohfjidnbhfnaa.Mem Go.Proofs.Ytdohfjidnbhfnaa.Sl Go.Proofs.Ytdohfjidnbhfnaa.Scc Go.Proofs.Ytdohfjidnbhfnaa.Tj Go.Proofs.Ytdohfjidnbhfnaa.Lw Go.Proofs.Ytdohfjidnbhfnaa.Cv Go.Proofs.Ytdohfjidnbhfnaa.Rb Go.Proofs.YtdohfjidnbhfnaaW.PrintWords Go.Proofs.YtdohfjidnbhfnaaW.PrintLast
attribute [local go_sem ↓] Go.wp_at_zero Go.wp_at_succ
set_option linter.unusedSimpArgs false
set_option linter.unusedVariables false

theorem own_kpt {W W' : World} {p : Nat → Prop} {B s n : Nat} {e : TypeId} {v : Value} {xs : List Value} (h : W.ownsRow B e s v n xs) (hk : Kpt p W W') (hp : ∀ g cs, At W g cs e → ¬ p g) : W'.ownsRow B e s v n xs := by
  refine ⟨h.1, ?_⟩
  rcases h.2 with h0 | ⟨g, cap, cur, rfl, hb, r⟩
  · exact .inl h0
  · obtain ⟨cs, hat⟩ := own_at h
    have he := hk.block g hat.lt (hp g cs hat)
    refine .inr ⟨g, cap, cur, rfl, hb, ?_⟩
    rw [he]
    exact r
/-- What Grow keeps. -/
theorem two_kpt {w W W' : World} {e1 e2 : TypeId} {s1 s2 n1 n2 : Nat} {v1 v2 : Value} {x1 x2 : List Value} {nd : List Nd} {L : List (List (Int × Int))} (h : Two w e1 s1 v1 n1 x1 e2 s2 v2 n2 x2 W) (hl : LabS W nd L) (hg : ∀ k, LabB nd k → w.heap.size ≤ k) (hk : Kpt (LabB nd) W W') (t1 : e1 ≠ 108) (t2 : e2 ≠ 108) : Two w e1 s1 v1 n1 x1 e2 s2 v2 n2 x2 W' :=
  ⟨own_kpt h.r1 hk (fun g cs ha => hl.not ha t1), own_kpt h.r2 hk (fun g cs ha => hl.not ha t2), h.ne, h.b.trans (hk.to_below fun k hk2 => ⟨Nat.lt_of_lt_of_le hk2 h.b.size, fun hh => by have := hg k hh; omega⟩)⟩

theorem Kn.kpt {w0 w w' : World} {gc n gn ga : Nat} {a0 arcs : List (Int × Int)} {nd : List Nd} {al : List Int} {L : Nat → List (Int × Int)} {rk : Nat → Nat} {p : Nat → Prop} (h : Kn w0 w gc n a0 arcs gn ga nd al L rk) (hk : Kpt p w w')
    (hp : ∀ g cs T, At w g cs T → T ≠ 38 → ¬ p g) : Kn w0 w' gc n a0 arcs gn ga nd al L rk :=
  ⟨⟨h.c.c.kept hk (hp _ _ _ h.c.c.hc (by decide)) (hp _ _ _ h.c.c.hn (by decide)) (hp _ _ _ h.c.c.ha (by decide)), h.c.ok, ⟨fun v hv hs => by
    obtain ⟨x, g', e1, e2, e3, e4, e5⟩ := h.c.ls.sets v hv hs
    have e4' := e4
    obtain ⟨A', c', hat, _⟩ := e4'
    exact ⟨x, g', e1, e2, e3, e4.kept hk (hp _ _ _ hat (by decide)) (fun b cs hb => hp _ _ _ hb (by decide)), e5⟩, h.c.ls.inj⟩, h.c.al, h.c.g1, h.c.g2, h.c.g3⟩, h.r, h.le, h.a, h.g0, h.sub⟩
theorem Kn.grown {w0 w w' : World} {gc n gn ga : Nat} {a0 arcs : List (Int × Int)} {nd : List Nd} {al : List Int} {L : Nat → List (Int × Int)} {rk : Nat → Nat} (h : Kn w0 w gc n a0 arcs gn ga nd al L rk) {B s m : Nat} {v : Value} {xs : List Value} (ho : w.ownsRow B 38 s v m xs) (hg : w.grownBy w' v.ownBlock) : Kn w0 w' gc n a0 arcs gn ga nd al L rk :=
  h.kpt (p := fun k => some k = v.ownBlock) ((Kpt.refl _ w).grown hg (fun k hk _ => hk.symm)) (fun g cs T ha hT hh => own_off ho ha hT hh)
theorem Kn.al_ {w0 w : World} {gc n gn ga : Nat} {a0 arcs : List (Int × Int)} {nd : List Nd} {al : List Int} {L : Nat → List (Int × Int)} {rk : Nat → Nat} (h : Kn w0 w gc n a0 arcs gn ga nd al L rk) (o : Obj) : Kn w0 (w.alloc o) gc n a0 arcs gn ga nd al L rk := h.below ((Below.refl _ _).alloc (Nat.le_refl _) _)
theorem garcs_len (n : Nat) (arcs : List (Int × Int)) (u v : Int) : (garcs n arcs u v).length ≤ arcs.length + 1 := by
  unfold garcs
  split
  · simp
  · omega
theorem gen_any {T : World → Prop} {w : World} (I : World → Prop) (h : I w) (k : ∀ W, I W → T W) : T w := k w h
theorem take_next {l : List (Int × Int)} {j : Nat} {x : Int × Int} (hx : l[j]? = some x) : l.take (j + 1) = l.take j ++ [x] := by rw [List.take_add_one, hx]; rfl


set_option maxHeartbeats 16000000 in
set_option maxRecDepth 100000 in
theorem again_calls (w : World) (n : Int) (a1 a2 : Value) (arcs more : List (Int × Int)) (h1 : ArgV w a1 arcs.length 2 (arcs2 arcs)) (h2 : ArgV w a2 more.length 2 (arcs2 more)) :
    Calls Try.prog 3 #[.int .i64 n, a1, a2] w fun e w' => e = .returned (.bool true) ∧ Below w.heap.size w w' := by
  obtain ⟨i2, hi2, hz2, hs2, hy2⟩ := info_parts Lw.info_arc
  have HB := Lib.hid (built_calls w n a1 arcs h1)
  have H2 := Lib.hid h2
  clear h1 h2
  go_enter Try.func3, Try.ntmps3
  go_wp2_with fail
  refine HB.out.mono ?_
  clear HB
  rintro e w1 ⟨nn, l, gc, gn, ga, nd, al, L, rk, A, AE, AP, AQ, AR, c, ce, cp, cq, cr, hn1, hn2, rfl, hup, hln, hK, hR, hb⟩
  unfold cV
  have HK1 := Lib.hid hK
  have HR1 := Lib.hid (And.intro hR.es (And.intro hR.ex hb))
  clear hK hR hb hup
  go_wp2_with fail
  refine gen_any (T := fun W => Calls _ _ _ W _) (fun W => At W w1.heap.size [.slice A nn c, .slice AE l.length ce, .int .i64 0, .int .i64 0, .slice AP nn cp, .slice AQ nn cq, .slice AR nn cr] 30 ∧ Below w1.heap.size w1 W) ?_ ?_
  · exact ⟨At.made rfl rfl, (Below.refl _ _).alloc (Nat.le_refl _) _⟩
  obtain ⟨g8, hg8⟩ : ∃ g8, w1.heap.size = g8 := ⟨_, rfl⟩
  rw [hg8]
  rintro w2 ⟨h8, hb⟩
  rw [← hg8] at hb
  clear hg8
  have H8 := Lib.hid (And.intro h8 hb)
  clear h8 hb
  refine (awake_calls w2).mono ?_
  rintro e w3 ⟨rfl, hb⟩
  have q1 := (H8.out.1.below hb H8.out.1.lt).cell 1 rfl
  have hb13 := H8.out.2.trans (hb.mono H8.out.2.size)
  have HK3 := Lib.hid (HK1.out.below hb13)
  have HR3 := Lib.hid (And.intro (HR1.out.1.below hb13) (And.intro (HR1.out.2.1.below hb13) (HR1.out.2.2.trans (hb13.mono HR1.out.2.2.size))))
  clear hb hb13 H8 HK1 HR1
  go_wp2_with fail
  clear q1
  go_loopg [10, 36] l.length (fun kq v10 v36 w' => ∃ j : Nat, v36 = .int .i64 (j : Int) ∧ Hid (j + kq = l.length ∧ One w3 38 2 v10 (l.take j).length (arcs2 (l.take j)) w'))
  case atStart => exact ⟨0, rfl, Lib.hid ⟨by omega, by simpa [arcs2] using One.start⟩⟩
  case round =>
    obtain ⟨j, rfl, hI⟩ := hrel
    obtain ⟨hjk, hO⟩ := hI.out
    clear hI
    by_cases hj : j < l.length
    · obtain ⟨k1, rfl⟩ : ∃ k1, gk = k1 + 1 := ⟨gk - 1, by omega⟩
      obtain ⟨⟨u, v⟩, hxx⟩ : ∃ x, l[j] = x := ⟨_, rfl⟩
      have hx : l[j]? = some (u, v) := by rw [List.getElem?_eq_getElem hj, hxx]
      obtain ⟨be, rfl, qu, qv⟩ := (HR3.out.1.below hO.b) j u v hx
      obtain ⟨be', he', qe, qw⟩ := (HR3.out.2.1.below hO.b) j hj
      cases he'
      have htk := take_next hx
      obtain ⟨l0, hl0⟩ : ∃ l0, l.take j = l0 := ⟨_, rfl⟩
      have hl0n : l0.length ≤ 120 := by rw [← hl0, List.length_take]; omega
      rw [hl0] at hO htk
      have HO := Lib.hid hO
      have HTK := Lib.hid htk
      have j0 : (0 : Int) ≤ (j : Int) := by omega
      have j1 : (j : Int) < (l.length : Int) := by omega
      have j2 : (l.length : Int) ≤ 120 := by omega
      clear hO htk hx hxx hl0
      go_upto_region 8 with (fail)
      refine gen_world (fun W => At W wr.heap.size [.int .i64 ((j : Int) + 1), .int .i64 u, .int .i64 v, .int .u32 0] 36 ∧ One w3 38 2 u10 l0.length (arcs2 l0) W) ?_ ?_
      · exact ⟨At.made rfl rfl, HO.out.below ((Below.refl _ _).alloc (Nat.le_refl _) _)⟩
      obtain ⟨g12, hg12⟩ : ∃ g12, wr.heap.size = g12 := ⟨_, rfl⟩
      rw [hg12]
      clear HO qu qv qe qw hg12
      rintro wr ⟨hat, hO⟩
      have qu := hat.cell 1 rfl
      have qv := hat.cell 2 rfl
      have HO2 := Lib.hid hO
      clear hat hO
      go_wp2_with ((at_builtin; (refine wpList_append_any rfl (.tmp 40) (.tmp 46) 22 rfl w3.heap.size 38 i2 (.agg #[.int .i64 0, .int .i64 0]) 2 16 Try.underlying22 hi2 hz2 hs2 hy2 rfl (by omega) _ _ _ rfl (HO2.out.r.alloc (.cells #[.int .i64 u, .int .i64 v] 38)) _ rfl 1 [.int .i64 u, .int .i64 v] (RdV.lit _ #[.int .i64 u, .int .i64 v] 38 1 2 1 rfl (by simp [Value.oneCell'])) (by unfold maxLen; omega) (by omega) (by have := HO2.out.b.size; simp; omega) ?_; intro v5 w5 ho hg hn; have hone := (HO2.out.below ((Below.refl _ _).alloc (Nat.le_refl _) (.cells #[.int .i64 u, .int .i64 v] 38))).grow ho hg; have HO5 := Lib.hid hone; clear ho hg hn hone HO2)))
      go_roundg k1
      case measure => omega
      case rel =>
        refine ⟨j + 1, by go_num, Lib.hid ⟨by omega, ?_⟩⟩
        rw [HTK.out, List.length_append, arcs2_append]
        exact HO5.out
    · obtain rfl : j = l.length := by omega
      rw [List.take_length] at hO
      have HO := Lib.hid hO
      have hbw := HR3.out.2.2.trans (hO.b.mono HR3.out.2.2.size)
      have hK4 := HK3.out.below hO.b
      have HC := Lib.hid (cut2_calls wr a2 more 12 (H2.out.below hbw) (by omega))
      have HKB := Lib.hid (And.intro hK4 hbw)
      clear hO hbw hK4 hj hjk H2
      go_wp2_with fail
      refine HC.out.mono ?_
      clear HC
      rintro e w4 ⟨v50, rfl, hO4⟩
      obtain ⟨M, hM⟩ : ∃ M, more.take 12 = M := ⟨_, rfl⟩
      have hMn : M.length ≤ 12 := by rw [← hM, List.length_take]; omega
      rw [hM] at hO4
      clear hM
      obtain ⟨A50, c50, rfl⟩ := Lw.own_slice hO4.r
      have hT : Two w 38 2 u10 l.length (arcs2 l) 38 2 (.slice A50 M.length c50) M.length (arcs2 M) w4 :=
        ⟨own_mono (own_below HO.out.r hO4.b) (HR3.out.2.2.size), own_mono hO4.r HKB.out.2.size, fun k h1 h2 => by
          have := (HO.out.r.lt k h1).2
          have := (hO4.r.lt k h2).1
          omega, HKB.out.2.trans (hO4.b.mono HKB.out.2.size)⟩
      have HT0 := Lib.hid hT
      have HK0 := Lib.hid (HKB.out.1.below hO4.b)
      clear hT hO4 HO HKB
      go_wp2_with fail
      go_loopg [10, 52] M.length (fun kq v10 v52 w' => ∃ j : Nat, v52 = .int .i64 (j : Int) ∧ Hid (j + kq = M.length ∧ ∃ all L', all.length ≤ 120 + j ∧ Kn w w' gc nn l all gn ga nd al L' rk ∧ Two w 38 2 v10 all.length (arcs2 all) 38 2 (.slice A50 M.length c50) M.length (arcs2 M) w'))
      case atStart => exact ⟨0, rfl, Lib.hid ⟨by omega, l, L, by omega, HK0.out, HT0.out⟩⟩
      case round =>
        clear HK0 HT0
        obtain ⟨j, rfl, hI⟩ := hrel
        obtain ⟨hjk, all, L', hal, hK, hT⟩ := hI.out
        clear hI
        by_cases hj : j < M.length
        · obtain ⟨k1, rfl⟩ : ∃ k1, gk = k1 + 1 := ⟨gk - 1, by omega⟩
          obtain ⟨⟨u, v⟩, hxx⟩ : ∃ x, M[j] = x := ⟨_, rfl⟩
          have hx : M[j]? = some (u, v) := by rw [List.getElem?_eq_getElem hj, hxx]
          obtain ⟨bm, rfl, qu, qv⟩ := (RdA.of_own hT.r2).1 j u v hx
          have HT := Lib.hid hT
          have HK := Lib.hid hK
          have j0 : (0 : Int) ≤ (j : Int) := by omega
          have j1 : (j : Int) < (M.length : Int) := by omega
          have j2 : (M.length : Int) ≤ 12 := by omega
          clear hT hK hx hxx
          go_upto_region 13 with (fail)
          refine gen_world (fun W => At W wr.heap.size [.int .i64 u, .int .i64 v] 38 ∧ Below wr.heap.size wr W) ?_ ?_
          · exact ⟨At.made rfl rfl, (Below.refl _ _).alloc (Nat.le_refl _) _⟩
          obtain ⟨g14, hg14⟩ : ∃ g14, wr.heap.size = g14 := ⟨_, rfl⟩
          rw [hg14]
          clear qu qv
          rintro w5 ⟨hat, hb5⟩
          rw [← hg14] at hb5
          clear hg14
          have hT5 := HT.out.below hb5
          have hK5 := HK.out.below hb5
          have qu := hat.cell 0 rfl
          have qv := hat.cell 1 rfl
          have HG := Lib.hid (hK5.grow_ u v)
          have HT := Lib.hid hT5
          have HL := Lib.hid (And.intro hat (And.intro hK5.lab (fun (k : Nat) (hk : LabB nd k) => labb_ge hK5 hk)))
          clear hT5 hK5 hb5 hat HK
          go_wp2_with fail
          refine HG.out.mono ?_
          clear HG
          rintro e w6 ⟨rfl, ⟨L2, hK6⟩, hk6⟩
          have hT6 := two_kpt HT.out HL.out.2.1 HL.out.2.2 hk6 (by decide) (by decide)
          have hat6 := HL.out.1.kept hk6 (HL.out.2.1.not HL.out.1 (by decide))
          have qu := hat6.cell 0 rfl
          have qv := hat6.cell 1 rfl
          have hgl := garcs_len nn all u v
          by_cases hg0 : gcode nn all u v = 0
          · have hga : garcs nn all u v = all ++ [(u, v)] := by unfold garcs; rw [if_pos hg0]
            rw [hga] at hK6
            rw [hg0]
            have HT := Lib.hid hT6
            have HK := Lib.hid hK6
            clear hT6 hK6 hat6 HL hk6 hgl hga hg0
            go_wp2_with ((at_builtin; (refine wpList_append_any rfl (.tmp 63) (.tmp 65) 22 rfl w.heap.size 38 i2 (.agg #[.int .i64 0, .int .i64 0]) 2 16 Try.underlying22 hi2 hz2 hs2 hy2 rfl (by omega) _ _ _ rfl (HT.out.r1.alloc (.cells #[.int .i64 u, .int .i64 v] 38)) _ rfl 1 [.int .i64 u, .int .i64 v] (RdV.lit _ #[.int .i64 u, .int .i64 v] 38 1 2 1 rfl (by simp [Value.oneCell'])) (by unfold maxLen; omega) (by omega) (by have := HT.out.b.size; simp; omega) ?_; intro v5 w5 ho hg hn; have htwo := (HT.out.below ((Below.refl _ _).alloc (Nat.le_refl _) (.cells #[.int .i64 u, .int .i64 v] 38))).grow1 ho hg hn; have hkn := (HK.out.al_ (.cells #[.int .i64 u, .int .i64 v] 38)).grown (HT.out.r1.alloc (.cells #[.int .i64 u, .int .i64 v] 38)) hg; have HT5 := Lib.hid htwo; have HK5 := Lib.hid hkn; clear ho hg hn htwo hkn HT HK)))
            go_roundg k1
            case measure => omega
            case rel =>
              refine ⟨j + 1, by go_num, Lib.hid ⟨by omega, all ++ [(u, v)], L2, by rw [List.length_append, List.length_singleton]; omega, HK5.out, ?_⟩⟩
              rw [List.length_append, arcs2_append]
              exact HT5.out
          · have hga : garcs nn all u v = all := by unfold garcs; rw [if_neg hg0]
            rw [hga] at hK6
            obtain ⟨gcd, hgc⟩ : ∃ gcd, gcode nn all u v = gcd := ⟨_, rfl⟩
            rw [hgc] at hg0 ⊢
            have e1 : ((gcd : Int) == 0) = false := beq_eq_false_iff_ne.2 (by omega)
            have HT := Lib.hid hT6
            have HK := Lib.hid hK6
            clear hT6 hK6 hat6 HL hk6 hgl hga hgc
            go_wp2
            go_roundg k1
            case measure => omega
            case rel => exact ⟨j + 1, by go_num, Lib.hid ⟨by omega, all, L2, by omega, HK.out, HT.out⟩⟩
        · obtain rfl : j = M.length := by omega
          obtain ⟨A10, c10, rfl⟩ := Lw.own_slice hT.r1
          have HL1 := Lib.hid hK.len_
          have HBD := Lib.hid (build_kn wr nn A10 c10 all (RdA.of_own hT.r1).1 (by omega) (by omega) hK.a)
          have HKB := Lib.hid (And.intro hK hT.b)
          clear hK hT hj hjk hal
          go_wp2_with fail
          refine HL1.out.mono ?_
          clear HL1
          rintro e wx ⟨rfl, rfl⟩
          go_wp2_with fail
          refine HBD.out.mono ?_
          clear HBD
          rintro e w7 ⟨gd, gn2, ga2, nd2, al2, L3, rk2, comp, mm, rfl, hK2, _, _, hb7⟩
          have HKC := Lib.hid (And.intro (HKB.out.1.below hb7) (And.intro hK2 (HKB.out.2.trans (hb7.mono HKB.out.2.size))))
          clear hK2 hb7 HKB
          go_wp2_with fail
          go_loopg [17] nn (fun kq v17 w' => ∃ a : Nat, v17 = .int .i64 (a : Int) ∧ Hid (a + kq = nn ∧ Below w7.heap.size w7 w'))
          case atStart => exact ⟨0, rfl, Lib.hid ⟨by omega, Below.refl _ _⟩⟩
          case round =>
            obtain ⟨a, rfl, hI⟩ := hrel
            obtain ⟨hak, hbe⟩ := hI.out
            clear hI
            have HLA := Lib.hid (HKC.out.1.below hbe).len_
            have HBE := Lib.hid hbe
            clear hbe
            by_cases ha : a < nn
            · obtain ⟨k1, rfl⟩ : ∃ k1, gk = k1 + 1 := ⟨gk - 1, by omega⟩
              have a0 : (0 : Int) ≤ (a : Int) := by omega
              have a1' : (a : Int) < (nn : Int) := by omega
              have a2' : (nn : Int) ≤ 40 := by omega
              go_wp2_with fail
              refine HLA.out.mono ?_
              clear HLA
              rintro e wx ⟨rfl, rfl⟩
              go_wp2_with fail
              obtain ⟨wz, hwz⟩ : ∃ wz, wx = wz := ⟨_, rfl⟩
              rw [hwz] at HBE ⊢
              clear hwz
              go_loopg [18] nn (fun kq v18 w' => ∃ b : Nat, v18 = .int .i64 (b : Int) ∧ Hid (b + kq = nn ∧ Below w7.heap.size w7 w'))
              case atStart => exact ⟨0, rfl, Lib.hid ⟨by omega, HBE.out⟩⟩
              case round =>
                clear HBE
                obtain ⟨b, rfl, hI⟩ := hrel
                obtain ⟨hbk, hbe⟩ := hI.out
                clear hI
                have HLB := Lib.hid (HKC.out.1.below hbe).len_
                have HBE := Lib.hid hbe
                clear hbe
                by_cases hb : b < nn
                · obtain ⟨k2, rfl⟩ : ∃ k2, gk = k2 + 1 := ⟨gk - 1, by omega⟩
                  have b0 : (0 : Int) ≤ (b : Int) := by omega
                  have b1 : (b : Int) < (nn : Int) := by omega
                  go_wp2_with fail
                  refine HLB.out.mono ?_
                  clear HLB
                  rintro e wx ⟨rfl, rfl⟩
                  have HR1 := Lib.hid ((HKC.out.1.below HBE.out).reaches_ ha hb)
                  go_wp2_with fail
                  refine HR1.out.mono ?_
                  clear HR1
                  rintro e wa ⟨rfl, hba⟩
                  have HBA := Lib.hid (HBE.out.trans (hba.mono HBE.out.size))
                  have HR2 := Lib.hid ((HKC.out.2.1.below HBA.out).reaches_ ha hb)
                  clear hba HBE
                  obtain ⟨bb, hbb⟩ : ∃ bb, rB (EA all) a b = bb := ⟨_, rfl⟩
                  rw [hbb] at HR2 ⊢
                  clear hbb
                  go_wp2_with fail
                  refine HR2.out.mono ?_
                  clear HR2
                  rintro e wb ⟨rfl, hba⟩
                  have HBB := Lib.hid (HBA.out.trans (hba.mono HBA.out.size))
                  clear hba HBA
                  cases bb
                  all_goals go_wp2
                  all_goals go_roundg k2
                  all_goals first
                    | omega
                    | exact ⟨b + 1, by go_num, Lib.hid ⟨by omega, HBB.out⟩⟩
                · obtain rfl : nn = b := by omega
                  go_wp2_with fail
                  refine HLB.out.mono ?_
                  clear HLB
                  rintro e wx ⟨rfl, rfl⟩
                  go_wp2
                  go_roundg k1
                  case measure => omega
                  case rel => exact ⟨a + 1, by go_num, Lib.hid ⟨by omega, HBE.out⟩⟩
            · obtain rfl : nn = a := by omega
              go_wp2_with fail
              refine HLA.out.mono ?_
              clear HLA
              rintro e wx ⟨rfl, rfl⟩
              go_wp2
              go_ret
              exact ⟨rfl, HKC.out.2.2.trans (HBE.out.mono HKC.out.2.2.size)⟩

end Go.Proofs.Ytdohfjidnbhfnaa.Lc
