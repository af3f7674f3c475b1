/- CoverHolds, walked. -/
import Derived.Test.YtdohfjidnbhfnaaGh37
namespace Go.Proofs.Ytdohfjidnbhfnaa.Lc
open Go Go.RowKit Go.Proofs.Ytdohfjidnbhfnaa.Mem Go.Proofs.Ytdohfjidnbhfnaa.Sl Go.Proofs.Ytdohfjidnbhfnaa.Scc Go.Proofs.Ytdohfjidnbhfnaa.Tj Go.Proofs.Ytdohfjidnbhfnaa.Lw Go.Proofs.Ytdohfjidnbhfnaa.Cv Go.Proofs.Ytdohfjidnbhfnaa.Rb Go.Proofs.YtdohfjidnbhfnaaW.PrintWords Go.Proofs.YtdohfjidnbhfnaaW.PrintLast
attribute [local go_sem ↓] Go.wp_at_zero Go.wp_at_succ
set_option linter.unusedSimpArgs false
set_option linter.unusedVariables false

theorem run_of : ∀ {l : List (Int × Int)} {b lo hi : Int}, Sp.Canon b l → lo ≤ hi → (∀ y, lo ≤ y → y ≤ hi → Sp.Mem l y) → ∃ r ∈ l, r.1 ≤ lo ∧ hi ≤ r.2
  | [], b, lo, hi, _, h1, h2 => absurd (h2 lo (Int.le_refl _) h1) (Sp.mem_nil _)
  | r :: l, b, lo, hi, h, h1, h2 => by
    have hlow : ∀ y, Sp.Mem l y → r.2 + 1 < y := fun y hy => by
      obtain ⟨r', hr, g1, g2⟩ := hy
      have := (h.2.2.mem_low r' hr).1
      omega
    by_cases hr : r.2 < lo
    · obtain ⟨r', hr', g⟩ := run_of h.2.2 h1 fun y y1 y2 => by
        rcases Sp.mem_cons.1 (h2 y y1 y2) with g | g
        · omega
        · exact g
      exact ⟨r', List.mem_cons_of_mem _ hr', g⟩
    · refine ⟨r, by simp, ?_, ?_⟩
      · rcases Sp.mem_cons.1 (h2 lo (Int.le_refl _) h1) with g | g
        · exact g.1
        · have := hlow _ g; omega
      · rcases Int.le_total hi r.2 with g | g
        · exact g
        · rcases Int.lt_or_le r.2 hi with g2 | g2
          · rcases Sp.mem_cons.1 (h2 (r.2 + 1) (by omega) (by omega)) with g3 | g3
            · omega
            · have := hlow _ g3; omega
          · exact g2
def wh (l : List (Int × Int)) (lo hi : Int) : Bool := l.any fun r => decide (r.1 ≤ lo) && decide (hi ≤ r.2)
theorem wh_next {l : List (Int × Int)} {j : Nat} {a b lo hi : Int} (h : l[j]? = some (a, b)) : wh (l.take (j + 1)) lo hi = (wh (l.take j) lo hi || (decide (a ≤ lo) && decide (hi ≤ b))) := by
  unfold wh
  rw [take_next h, List.any_append]
  simp
theorem wh_one {l : List (Int × Int)} {b p : Int} (h : Sp.Canon b l) : wh l p p = true ↔ Sp.Mem l p := by
  unfold wh
  rw [List.any_eq_true]
  constructor
  · rintro ⟨r, hr, h1⟩
    have := Bool.and_eq_true_iff.1 h1
    exact ⟨r, hr, of_decide_eq_true this.1, of_decide_eq_true this.2⟩
  · rintro ⟨r, hr, h1, h2⟩
    exact ⟨r, hr, by rw [decide_eq_true h1, decide_eq_true h2]; rfl⟩
section
variable {w0 w : World} {gc n gn ga : Nat} {a0 arcs : List (Int × Int)} {nd : List Nd} {al : List Int} {L : Nat → List (Int × Int)} {rk : Nat → Nat}
theorem Kn.whole (h : Kn w0 w gc n a0 arcs gn ga nd al L rk) {u : Nat} (hu : u < n) : wh (L u) (lowN (parsOf n a0) u : Int) (postN (parsOf n a0) u : Int) = true := by
  obtain ⟨h1, h2, h3, h4⟩ := low_post h.r hu
  obtain ⟨r, hr, g1, g2⟩ := run_of (h.labOk hu).1.1 (lo := (lowN (parsOf n a0) u : Int)) (hi := (postN (parsOf n a0) u : Int)) (by omega) (fun y y1 y2 => by
    obtain ⟨z, hz⟩ := Int.eq_ofNat_of_zero_le (show 0 ≤ y by omega)
    subst hz
    obtain ⟨x, hx, he⟩ := (h4 z).1 ⟨by omega, by omega⟩
    subst he
    have hxn : x < n := by
      rcases hx with hx | rfl
      · exact (bl_rk h.r _ (.inr ⟨u, hu, rfl⟩) x hx).1
      · exact hu
    rw [h.mem hu hxn]
    refine rch_mono (fun a b hab => h.sub _ hab) ?_
    rcases hx with hx | rfl
    · exact bl_rch h.g0 h.r _ (.inr ⟨u, hu, rfl⟩) u rfl x hx
    · exact .refl _)
  unfold wh
  rw [List.any_eq_true]
  exact ⟨r, hr, by rw [decide_eq_true g1, decide_eq_true g2]; rfl⟩
theorem Kn.inOne (h : Kn w0 w gc n a0 arcs gn ga nd al L rk) {u v : Nat} (hu : u < n) (hv : v < n) : wh (L u) (postN (parsOf n a0) v : Int) (postN (parsOf n a0) v : Int) = rB (EA arcs) u v := by
  rw [Bool.eq_iff_iff, wh_one (h.labOk hu).1.1, h.mem hu hv, rB_iff]
theorem Kn.parent (h : Kn w0 w gc n a0 arcs gn ga nd al L rk) {u p : Nat} (hu : u < n) (hp : (parsOf n a0).getD u 0 = (p : Int)) : p < n ∧ lowN (parsOf n a0) p ≤ lowN (parsOf n a0) u ∧ postN (parsOf n a0) u < postN (parsOf n a0) p ∧ rB (EA arcs) p u = true := by
  have hpn : p < n ∧ rk p < rk u := by
    rcases h.r.par u hu with h1 | ⟨q, h1, h2, h3⟩
    · omega
    · have : p = q := by omega
      subst this
      exact ⟨h1, h3⟩
  have hub : u ∈ bl (parsOf n a0) (p : Int) := (mem_bl h.r (.inr ⟨p, hpn.1, rfl⟩)).2 ⟨u, mem_kids.2 ⟨by rw [h.r.len]; exact hu, hp⟩, .inr rfl⟩
  obtain ⟨a, b, hab⟩ := bl_block h.r _ (.inr ⟨p, hpn.1, rfl⟩) u hub
  obtain ⟨p1, p2, p3, p4⟩ := low_post h.r hpn.1
  obtain ⟨u1, u2, u3, u4⟩ := low_post h.r hu
  have hpu := (p4 (postN (parsOf n a0) u)).2 ⟨u, .inl hub, rfl⟩
  obtain ⟨z, hz, he⟩ := (u4 (lowN (parsOf n a0) u)).1 ⟨Nat.le_refl _, u2⟩
  have hzb : z ∈ bl (parsOf n a0) (p : Int) := by
    rcases hz with hz | rfl
    · rw [hab]; simp [hz]
    · exact hub
  have hpl := (p4 (lowN (parsOf n a0) u)).2 ⟨z, .inl hzb, he⟩
  refine ⟨hpn.1, hpl.1, ?_, ?_⟩
  · rcases Nat.lt_or_eq_of_le hpu.2 with h1 | h1
    · exact h1
    · have := post_inj h.r hu hpn.1 h1
      subst this
      omega
  · rw [rB_iff]
    refine rch_mono (fun a b hab => h.sub _ hab) (.one ?_)
    rcases h.g0.par.2 u hu with ⟨h1, _⟩ | ⟨h1, _⟩
    · omega
    · rw [hp] at h1; exact h1
end

def tb7_16.T16 : Bool × List (List Nat × List Nat) := (true, [([], []), ([0], [0]), ([1], [1]), ([2, 1], [1, 2]), ([1], [1]), ([1], [1]), ([4, 5, 1, 1], [1, 4, 5]), ([3, 6, 1], [1, 3, 6]), ([7, 6, 1], [1, 7]), ([8], [8]), ([8], [8]), ([9, 10, 8, 8], [8, 9, 10]), ([8], [8]), ([12, 8], [8, 12]), ([11, 13, 8], [8, 11, 13]), ([8, 14, 1], [1, 8, 14]), ([1, 15], [1, 15]), ([16, 11, 0, 1, 2, 3, 4, 5, 6, 7, 8, 9, 10, 11, 12, 13, 14, 15, 16], [0, 16])])
def tb7_16.B16 : List Nat := [0, 1, 3, 7, 3, 3, 51, 127, 255, 511, 511, 2047, 511, 4607, 16383, 32767, 65535, 131071]
theorem tb7_16.tab16 : rtab .any (opsOf Try.f7 16) = tb7_16.T16 := by kernel_rfl
theorem tb7_16.bits16 : waitsOk tb7_16.T16.2 tb7_16.B16 = true := by kernel_rfl
def tb7_28.T28 : Bool × List (List Nat × List Nat) := (true, [([], []), ([0], [0]), ([1], [1]), ([2, 1], [1, 2]), ([1], [1]), ([1], [1]), ([4, 5, 1, 1], [1, 4, 5]), ([3, 6, 1], [1, 3, 6]), ([7, 6, 1], [1, 7]), ([8], [8]), ([8], [8]), ([9, 10, 8, 8], [8, 9, 10]), ([8], [8]), ([12, 8], [8, 12]), ([11, 13, 8], [8, 11, 13]), ([8, 14, 1], [1, 8, 14]), ([1, 15], [1, 15]), ([16, 11, 0, 1, 2, 3, 4, 5, 6, 7, 8, 9, 10, 11, 12, 13, 14, 15, 16], [0, 16])])
def tb7_28.B28 : List Nat := [0, 1, 3, 7, 3, 3, 51, 127, 255, 511, 511, 2047, 511, 4607, 16383, 32767, 65535, 131071]
theorem tb7_28.tab28 : rtab .any (opsOf Try.f7 28) = tb7_28.T28 := by kernel_rfl
theorem tb7_28.bits28 : waitsOk tb7_28.T28.2 tb7_28.B28 = true := by kernel_rfl
set_option maxHeartbeats 16000000 in
set_option maxRecDepth 100000 in
theorem holds_calls (w : World) (n : Int) (a1 a2 : Value) (arcs more : List (Int × Int)) (h1 : ArgV w a1 arcs.length 2 (arcs2 arcs)) (h2 : ArgV w a2 more.length 2 (arcs2 more)) :
    Calls Try.prog 7 #[.int .i64 n, a1, a2] w fun e w' => e = .returned (.bool true) ∧ Below w.heap.size w w' := by
  obtain ⟨i2, hi2, hz2, hs2, hy2⟩ := info_parts Lw.info_arc
  have HB := Lib.hid (built_calls w n a1 arcs h1)
  have H2 := Lib.hid h2
  clear h1 h2
  go_enter Try.func7, Try.ntmps7
  go_wp2_with fail
  refine HB.out.mono ?_
  clear HB
  rintro e w1 ⟨nn, l, gc, gn, ga, nd, al, L, rk, A, AE, AP, AQ, AR, c, ce, cp, cq, cr, hn1, hn2, rfl, hup, hln, hK, hR, hb⟩
  unfold cV
  have HK1 := Lib.hid hK
  have HR1 := Lib.hid (And.intro hR.es (And.intro hR.ex hb))
  clear hK hR hb hup
  go_wp2_with fail
  refine gen_any (T := fun W => Calls _ _ _ W _) (fun W => At W w1.heap.size [.slice A nn c, .slice AE l.length ce, .int .i64 0, .int .i64 0, .slice AP nn cp, .slice AQ nn cq, .slice AR nn cr] 30 ∧ Below w1.heap.size w1 W) ?_ ?_
  · exact ⟨At.made rfl rfl, (Below.refl _ _).alloc (Nat.le_refl _) _⟩
  obtain ⟨g8, hg8⟩ : ∃ g8, w1.heap.size = g8 := ⟨_, rfl⟩
  rw [hg8]
  rintro w2 ⟨h8, hb⟩
  rw [← hg8] at hb
  clear hg8
  have H8 := Lib.hid (And.intro h8 hb)
  clear h8 hb
  refine (awake_calls w2).mono ?_
  rintro e w3 ⟨rfl, hb⟩
  have hb13 := H8.out.2.trans (hb.mono H8.out.2.size)
  have HK3 := Lib.hid (HK1.out.below hb13)
  have HR3 := Lib.hid (And.intro (HR1.out.1.below hb13) (And.intro (HR1.out.2.1.below hb13) (HR1.out.2.2.trans (hb13.mono HR1.out.2.2.size))))
  clear hb hb13 H8 HK1 HR1
  go_wp2_with fail
  obtain ⟨wr, hwr⟩ : ∃ wr, w3 = wr := ⟨_, rfl⟩
  rw [hwr] at HK3 HR3 ⊢
  clear hwr
  refine (cut2_calls wr a2 more 12 (H2.out.below HR3.out.2.2) (by omega)).mono ?_
  clear H2
  rintro e w4 ⟨v50, rfl, hO4⟩
  obtain ⟨M, hM⟩ : ∃ M, more.take 12 = M := ⟨_, rfl⟩
  have hMn : M.length ≤ 12 := by rw [← hM, List.length_take]; omega
  rw [hM] at hO4
  clear hM
  obtain ⟨A50, c50, rfl⟩ := Lw.own_slice hO4.r
  have hT : Two w 38 2 (.slice none 0 0) 0 [] 38 2 (.slice A50 M.length c50) M.length (arcs2 M) w4 :=
    ⟨World.ownsRow_nil _ _ _ _, own_mono hO4.r HR3.out.2.2.size, fun k h1 h2 => by simp [Value.ownBlock] at h1, HR3.out.2.2.trans (hO4.b.mono HR3.out.2.2.size)⟩
  have HT0 := Lib.hid hT
  have HK0 := Lib.hid (HK3.out.below hO4.b)
  clear hT hO4 HK3 HR3
  go_wp2_with fail
  go_loopg [38] M.length (fun kq v52 w' => ∃ j : Nat, v52 = .int .i64 (j : Int) ∧ Hid (j + kq = M.length ∧ ∃ all L', Kn w w' gc nn l all gn ga nd al L' rk ∧ Two w 38 2 (.slice none 0 0) 0 [] 38 2 (.slice A50 M.length c50) M.length (arcs2 M) w'))
  case atStart => exact ⟨0, rfl, Lib.hid ⟨by omega, l, L, HK0.out, HT0.out⟩⟩
  case round =>
    clear HK0 HT0
    obtain ⟨j, rfl, hI⟩ := hrel
    obtain ⟨hjk, all, L', hK, hT⟩ := hI.out
    clear hI
    by_cases hj : j < M.length
    · obtain ⟨k1, rfl⟩ : ∃ k1, gk = k1 + 1 := ⟨gk - 1, by omega⟩
      obtain ⟨⟨u, v⟩, hxx⟩ : ∃ x, M[j] = x := ⟨_, rfl⟩
      have hx : M[j]? = some (u, v) := by rw [List.getElem?_eq_getElem hj, hxx]
      obtain ⟨bm, rfl, qu, qv⟩ := (RdA.of_own hT.r2).1 j u v hx
      have HT := Lib.hid hT
      have HK := Lib.hid hK
      have j0 : (0 : Int) ≤ (j : Int) := by omega
      have j1 : (j : Int) < (M.length : Int) := by omega
      have j2 : (M.length : Int) ≤ 12 := by omega
      clear hT hK hx hxx
      go_upto_region 7 with (fail)
      refine gen_world (fun W => At W wr.heap.size [.int .i64 u, .int .i64 v] 38 ∧ Below wr.heap.size wr W) ?_ ?_
      · exact ⟨At.made rfl rfl, (Below.refl _ _).alloc (Nat.le_refl _) _⟩
      obtain ⟨g14, hg14⟩ : ∃ g14, wr.heap.size = g14 := ⟨_, rfl⟩
      rw [hg14]
      clear qu qv
      rintro w5 ⟨hat, hb5⟩
      rw [← hg14] at hb5
      clear hg14
      have hT5 := HT.out.below hb5
      have hK5 := HK.out.below hb5
      have qu := hat.cell 0 rfl
      have qv := hat.cell 1 rfl
      have HG := Lib.hid (hK5.grow_ u v)
      have HT := Lib.hid hT5
      have HL := Lib.hid (And.intro hK5.lab (fun (k : Nat) (hk : LabB nd k) => labb_ge hK5 hk))
      clear hT5 hK5 hb5 hat HK
      go_wp2_with fail
      refine HG.out.mono ?_
      clear HG
      rintro e w6 ⟨rfl, ⟨L2, hK6⟩, hk6⟩
      have HT6 := Lib.hid (two_kpt HT.out HL.out.1 HL.out.2 hk6 (by decide) (by decide))
      have HK6 := Lib.hid hK6
      clear hK6 hk6 HT HL qu qv
      go_wp2
      go_roundg k1
      case measure => omega
      case rel => exact ⟨j + 1, by go_num, Lib.hid ⟨by omega, _, L2, HK6.out, HT6.out⟩⟩
    · obtain rfl : j = M.length := by omega
      obtain ⟨wK, hwK⟩ : ∃ wK, wr = wK := ⟨_, rfl⟩
      rw [hwK] at hK hT ⊢
      obtain ⟨L1, hL1⟩ : ∃ L1, L' = L1 := ⟨_, rfl⟩
      rw [hL1] at hK
      have HK := Lib.hid hK
      have HTB := Lib.hid hT.b
      clear hK hT hj hjk hwK hL1 wr
      go_wp2_with fail
      go_loopg [12] nn (fun kq v12 w' => ∃ u : Nat, v12 = .int .i64 (u : Int) ∧ Hid (u + kq = nn ∧ Below wK.heap.size wK w'))
      case atStart => exact ⟨0, rfl, Lib.hid ⟨by omega, Below.refl _ _⟩⟩
      case round =>
        obtain ⟨u, rfl, hI⟩ := hrel
        obtain ⟨huk, hbe⟩ := hI.out
        clear hI
        have HLA := Lib.hid (HK.out.below hbe).len_
        have HBE := Lib.hid hbe
        clear hbe
        by_cases hu : u < nn
        · obtain ⟨k1, rfl⟩ : ∃ k1, gk = k1 + 1 := ⟨gk - 1, by omega⟩
          have a0 : (0 : Int) ≤ (u : Int) := by omega
          have a1' : (u : Int) < (nn : Int) := by omega
          have a2' : (nn : Int) ≤ 40 := by omega
          go_wp2_with fail
          refine HLA.out.mono ?_
          clear HLA
          rintro e wx ⟨rfl, rfl⟩
          have HLB := Lib.hid ((HK.out.below HBE.out).label_ hu)
          go_wp2_with fail
          refine HLB.out.mono ?_
          clear HLB
          rintro e w5 ⟨vl, rfl, ho, hb5⟩
          obtain ⟨Al, cl, rfl⟩ := Lw.own_slice ho
          have HLN := Lib.hid (HK.out.runs hu)
          have HLS := Lib.hid (And.intro (HBE.out.trans (hb5.mono HBE.out.size)) (RdA.of_own (l := L1 u) ho).1)
          have hwt := HK.out.whole hu
          obtain ⟨lw, hlw⟩ : ∃ lw, lowN (parsOf nn l) u = lw := ⟨_, rfl⟩
          obtain ⟨po, hpo⟩ : ∃ po, postN (parsOf nn l) u = po := ⟨_, rfl⟩
          rw [hlw, hpo] at hwt
          have HWT := Lib.hid hwt
          have HLP := Lib.hid (And.intro hlw hpo)
          clear hwt hlw hpo ho hb5 HBE
          go_wp2_with fail
          go_loopg [13, 59] (L1 u).length (fun kq v13 v59 w' => ∃ j : Nat, v59 = .int .i64 (j : Int) ∧ v13 = .bool (wh ((L1 u).take j) (lw : Int) (po : Int)) ∧ Hid (j + kq = (L1 u).length ∧ Below wK.heap.size wK w' ∧ RdA w' Al (L1 u)))
          case atStart => exact ⟨0, rfl, rfl, Lib.hid ⟨by omega, HLS.out.1, HLS.out.2⟩⟩
          case round =>
            clear HLS
            obtain ⟨j, rfl, rfl, hI⟩ := hrel
            obtain ⟨hjk, hbe, hrd⟩ := hI.out
            clear hI
            by_cases hj : j < (L1 u).length
            · obtain ⟨k2, rfl⟩ : ∃ k2, gk = k2 + 1 := ⟨gk - 1, by omega⟩
              obtain ⟨⟨a, b⟩, hxx⟩ : ∃ x, (L1 u)[j] = x := ⟨_, rfl⟩
              have hx : (L1 u)[j]? = some (a, b) := by rw [List.getElem?_eq_getElem hj, hxx]
              obtain ⟨bs, rfl, qa, qb⟩ := hrd j a b hx
              have HNX := Lib.hid (wh_next (lo := (lw : Int)) (hi := (po : Int)) hx)
              have j0 : (0 : Int) ≤ (j : Int) := by omega
              have j1 : (j : Int) < ((L1 u).length : Int) := by omega
              have j2 : ((L1 u).length : Int) ≤ 256 := by have := HLN.out; omega
              have HS := Lib.hid (And.intro hbe hrd)
              obtain ⟨acc, hacc⟩ : ∃ acc, wh ((L1 u).take j) (lw : Int) (po : Int) = acc := ⟨_, rfl⟩
              rw [hacc] at HNX ⊢
              clear hx hxx hbe hrd hacc
              go_upto_region 16 with (fail)
              refine gen_world (fun W => At W wr.heap.size [.int .i64 a, .int .i64 b] 55 ∧ Below wr.heap.size wr W) ?_ ?_
              · exact ⟨At.made rfl rfl, (Below.refl _ _).alloc (Nat.le_refl _) _⟩
              obtain ⟨g15, hg15⟩ : ∃ g15, wr.heap.size = g15 := ⟨_, rfl⟩
              rw [hg15]
              clear qa qb
              rintro w5 ⟨hat, hb5⟩
              rw [← hg15] at hb5
              clear hg15
              have HS5 := Lib.hid (And.intro (HS.out.1.trans (hb5.mono HS.out.1.size)) (HS.out.2.below hb5))
              clear hb5 HS
              obtain ⟨wr2, hwr2⟩ : ∃ wr2, w5 = wr2 := ⟨_, rfl⟩
              rw [hwr2] at hat HS5 ⊢
              clear hwr2 wr
              obtain ⟨wr, hwr⟩ : ∃ wr, wr2 = wr := ⟨_, rfl⟩
              rw [hwr] at hat HS5 ⊢
              clear hwr
              have qa := hat.cell 0 rfl
              have qb := hat.cell 1 rfl
              have hKd := HK.out.below (HS5.out.1.drew)
              have HC1 := Lib.hid (HLP.out.1 ▸ hKd.low_ hu)
              have HC2 := Lib.hid (HLP.out.2 ▸ hKd.post_ hu)
              clear hat hKd
              cases acc with
              | true =>
                clear HC1 HC2
                refine start_ (n := 18) (S := fun w' => w'.cell? ⟨g15, 0, none⟩ = some (.int .i64 a) ∧ w'.cell? ⟨g15, 1, none⟩ = some (.int .i64 b)) (ds := []) #[false, false, false, false, false, false, false, false, false, false, false, false, false, false, false, false, false, false] (by kernel_rfl) rfl rfl ⟨qa, qb⟩ (fun hHeld => ?_)
                refine with_tabW tb7_16.tab16 tb7_16.bits16 (fun HT_ HW_ => ?_)
                refine pure_ (i := 0) (N := some 63) (v := ?_) (a' := ?_) #[true, false, false, false, false, false, false, false, false, false, false, false, false, false, false, false, false, false] rfl rfl (any_of HT_.out (by kernel_rfl)) (fun _ _ _ h => h) (Or.inl ⟨by rfl, ?_⟩) ?_ ?_
                rotate_left; · intro w'; go_simp; with_reducible rfl
                rotate_left; · simp only [Act.put, List.setIfInBounds_toArray, List.set_cons_zero, List.set_cons_succ, i64_w, i32_w]; rfl
                refine pure_ (i := 1) (N := some 64) (v := ?_) (a' := ?_) #[true, true, false, false, false, false, false, false, false, false, false, false, false, false, false, false, false, false] rfl rfl (any_of HT_.out (by kernel_rfl)) (fun _ _ _ h => h) (Or.inl ⟨by rfl, ?_⟩) ?_ ?_
                rotate_left; · intro w'; go_simp; with_reducible rfl
                rotate_left; · simp only [Act.put, List.setIfInBounds_toArray, List.set_cons_zero, List.set_cons_succ, i64_w, i32_w]; rfl
                refine pure_ (i := 2) (N := some 65) (v := undef) (a' := ?_) #[true, true, true, false, false, false, false, false, false, false, false, false, false, false, false, false, false, false] rfl rfl (any_of HT_.out (by kernel_rfl)) (fun _ _ _ h => h) (Or.inr ⟨by rfl, rfl⟩) ?_ ?_
                rotate_left; · simp only [Act.put, List.setIfInBounds_toArray, List.set_cons_zero, List.set_cons_succ, i64_w, i32_w]; rfl
                refine pure_ (i := 3) (N := some 66) (v := undef) (a' := ?_) #[true, true, true, true, false, false, false, false, false, false, false, false, false, false, false, false, false, false] rfl rfl (any_of HT_.out (by kernel_rfl)) (fun _ _ _ h => h) (Or.inr ⟨by rfl, rfl⟩) ?_ ?_
                rotate_left; · simp only [Act.put, List.setIfInBounds_toArray, List.set_cons_zero, List.set_cons_succ, i64_w, i32_w]; rfl
                refine pure_ (i := 4) (N := some 67) (v := undef) (a' := ?_) #[true, true, true, true, true, false, false, false, false, false, false, false, false, false, false, false, false, false] rfl rfl (any_of HT_.out (by kernel_rfl)) (fun _ _ _ h => h) (Or.inr ⟨by rfl, rfl⟩) ?_ ?_
                rotate_left; · simp only [Act.put, List.setIfInBounds_toArray, List.set_cons_zero, List.set_cons_succ, i64_w, i32_w]; rfl
                refine pure_ (i := 5) (N := some 68) (v := undef) (a' := ?_) #[true, true, true, true, true, true, false, false, false, false, false, false, false, false, false, false, false, false] rfl rfl (any_of HT_.out (by kernel_rfl)) (fun _ _ _ h => h) (Or.inr ⟨by rfl, rfl⟩) ?_ ?_
                rotate_left; · simp only [Act.put, List.setIfInBounds_toArray, List.set_cons_zero, List.set_cons_succ, i64_w, i32_w]; rfl
                refine pure_ (i := 6) (N := some 69) (v := undef) (a' := ?_) #[true, true, true, true, true, true, true, false, false, false, false, false, false, false, false, false, false, false] rfl rfl (any_of HT_.out (by kernel_rfl)) (fun _ _ _ h => h) (Or.inr ⟨by rfl, rfl⟩) ?_ ?_
                rotate_left; · simp only [Act.put, List.setIfInBounds_toArray, List.set_cons_zero, List.set_cons_succ, i64_w, i32_w]; rfl
                refine pure_ (i := 7) (N := some 70) (v := undef) (a' := ?_) #[true, true, true, true, true, true, true, true, false, false, false, false, false, false, false, false, false, false] rfl rfl (any_of HT_.out (by kernel_rfl)) (fun _ _ _ h => h) (Or.inr ⟨by rfl, rfl⟩) ?_ ?_
                rotate_left; · simp only [Act.put, List.setIfInBounds_toArray, List.set_cons_zero, List.set_cons_succ, i64_w, i32_w]; rfl
                refine pure_ (i := 8) (N := some 71) (v := undef) (a' := ?_) #[true, true, true, true, true, true, true, true, true, false, false, false, false, false, false, false, false, false] rfl rfl (any_of HT_.out (by kernel_rfl)) (fun _ _ _ h => h) (Or.inr ⟨by rfl, rfl⟩) ?_ ?_
                rotate_left; · simp only [Act.put, List.setIfInBounds_toArray, List.set_cons_zero, List.set_cons_succ, i64_w, i32_w]; rfl
                refine pure_ (i := 9) (N := some 72) (v := undef) (a' := ?_) #[true, true, true, true, true, true, true, true, true, true, false, false, false, false, false, false, false, false] rfl rfl (any_of HT_.out (by kernel_rfl)) (fun _ _ _ h => h) (Or.inr ⟨by rfl, rfl⟩) ?_ ?_
                rotate_left; · simp only [Act.put, List.setIfInBounds_toArray, List.set_cons_zero, List.set_cons_succ, i64_w, i32_w]; rfl
                refine pure_ (i := 10) (N := some 73) (v := undef) (a' := ?_) #[true, true, true, true, true, true, true, true, true, true, true, false, false, false, false, false, false, false] rfl rfl (any_of HT_.out (by kernel_rfl)) (fun _ _ _ h => h) (Or.inr ⟨by rfl, rfl⟩) ?_ ?_
                rotate_left; · simp only [Act.put, List.setIfInBounds_toArray, List.set_cons_zero, List.set_cons_succ, i64_w, i32_w]; rfl
                refine pure_ (i := 11) (N := some 74) (v := undef) (a' := ?_) #[true, true, true, true, true, true, true, true, true, true, true, true, false, false, false, false, false, false] rfl rfl (any_of HT_.out (by kernel_rfl)) (fun _ _ _ h => h) (Or.inr ⟨by rfl, rfl⟩) ?_ ?_
                rotate_left; · simp only [Act.put, List.setIfInBounds_toArray, List.set_cons_zero, List.set_cons_succ, i64_w, i32_w]; rfl
                refine pure_ (i := 12) (N := some 75) (v := undef) (a' := ?_) #[true, true, true, true, true, true, true, true, true, true, true, true, true, false, false, false, false, false] rfl rfl (any_of HT_.out (by kernel_rfl)) (fun _ _ _ h => h) (Or.inr ⟨by rfl, rfl⟩) ?_ ?_
                rotate_left; · simp only [Act.put, List.setIfInBounds_toArray, List.set_cons_zero, List.set_cons_succ, i64_w, i32_w]; rfl
                refine pure_ (i := 13) (N := some 76) (v := undef) (a' := ?_) #[true, true, true, true, true, true, true, true, true, true, true, true, true, true, false, false, false, false] rfl rfl (any_of HT_.out (by kernel_rfl)) (fun _ _ _ h => h) (Or.inr ⟨by rfl, rfl⟩) ?_ ?_
                rotate_left; · simp only [Act.put, List.setIfInBounds_toArray, List.set_cons_zero, List.set_cons_succ, i64_w, i32_w]; rfl
                refine pure_ (i := 14) (N := some 77) (v := undef) (a' := ?_) #[true, true, true, true, true, true, true, true, true, true, true, true, true, true, true, false, false, false] rfl rfl (any_of HT_.out (by kernel_rfl)) (fun _ _ _ h => h) (Or.inr ⟨by rfl, rfl⟩) ?_ ?_
                rotate_left; · simp only [Act.put, List.setIfInBounds_toArray, List.set_cons_zero, List.set_cons_succ, i64_w, i32_w]; rfl
                refine pure_ (i := 15) (N := some 78) (v := undef) (a' := ?_) #[true, true, true, true, true, true, true, true, true, true, true, true, true, true, true, true, false, false] rfl rfl (any_of HT_.out (by kernel_rfl)) (fun _ _ _ h => h) (Or.inr ⟨by rfl, rfl⟩) ?_ ?_
                rotate_left; · simp only [Act.put, List.setIfInBounds_toArray, List.set_cons_zero, List.set_cons_succ, i64_w, i32_w]; rfl
                refine pure_ (i := 16) (N := some 79) (v := ?_) (a' := ?_) #[true, true, true, true, true, true, true, true, true, true, true, true, true, true, true, true, true, false] rfl rfl (any_of HT_.out (by kernel_rfl)) (fun _ _ _ h => h) (Or.inl ⟨by rfl, ?_⟩) ?_ ?_
                rotate_left; · intro w'; go_simp; with_reducible rfl
                rotate_left; · simp only [Act.put, List.setIfInBounds_toArray, List.set_cons_zero, List.set_cons_succ, i64_w, i32_w]; rfl
                refine pure_ (i := 17) (N := some 13) (v := ?_) (a' := ?_) #[true, true, true, true, true, true, true, true, true, true, true, true, true, true, true, true, true, true] rfl rfl (any_of HT_.out (by kernel_rfl)) (fun _ _ _ h => h) (Or.inl ⟨by rfl, ?_⟩) ?_ ?_
                rotate_left; · intro w'; go_simp; with_reducible rfl
                rotate_left; · simp only [Act.put, List.setIfInBounds_toArray, List.set_cons_zero, List.set_cons_succ, i64_w, i32_w]; rfl
                refine done_ (done_of HT_.out (by kernel_rfl)) ?_
                clear hHeld HT_ HW_
                go_wp2
                go_roundg k2
                case measure => omega
                case rel => exact ⟨j + 1, by go_num, by rw [HNX.out]; rfl, Lib.hid ⟨by omega, HS5.out.1.drew, HS5.out.2.below (Below.refl _ _).drew⟩⟩
              | false =>
                by_cases h1 : a ≤ (lw : Int)
                · have e1 : decide (a ≤ (lw : Int)) = true := decide_eq_true h1
                  refine start_ (n := 18) (S := fun w' => w'.cell? ⟨g15, 0, none⟩ = some (.int .i64 a) ∧ w'.cell? ⟨g15, 1, none⟩ = some (.int .i64 b)) (ds := []) #[false, false, false, false, false, false, false, false, false, false, false, false, false, false, false, false, false, false] (by kernel_rfl) rfl rfl ⟨qa, qb⟩ (fun hHeld => ?_)
                  refine with_tabW tb7_16.tab16 tb7_16.bits16 (fun HT_ HW_ => ?_)
                  refine pure_ (i := 0) (N := some 63) (v := ?_) (a' := ?_) #[true, false, false, false, false, false, false, false, false, false, false, false, false, false, false, false, false, false] rfl rfl (any_of HT_.out (by kernel_rfl)) (fun _ _ _ h => h) (Or.inl ⟨by rfl, ?_⟩) ?_ ?_
                  rotate_left; · intro w'; go_simp; with_reducible rfl
                  rotate_left; · simp only [Act.put, List.setIfInBounds_toArray, List.set_cons_zero, List.set_cons_succ, i64_w, i32_w]; rfl
                  refine pure_ (i := 1) (N := some 64) (v := ?_) (a' := ?_) #[true, true, false, false, false, false, false, false, false, false, false, false, false, false, false, false, false, false] rfl rfl (any_of HT_.out (by kernel_rfl)) (fun _ _ _ h => h) (Or.inl ⟨by rfl, ?_⟩) ?_ ?_
                  rotate_left; · intro w'; go_simp; with_reducible rfl
                  rotate_left; · simp only [Act.put, List.setIfInBounds_toArray, List.set_cons_zero, List.set_cons_succ, i64_w, i32_w]; rfl
                  refine pure_ (i := 2) (N := some 65) (v := ?_) (a' := ?_) #[true, true, true, false, false, false, false, false, false, false, false, false, false, false, false, false, false, false] rfl rfl (any_of HT_.out (by kernel_rfl)) (fun _ _ _ h => h) (Or.inl ⟨by rfl, ?_⟩) ?_ ?_
                  rotate_left; · intro w'; go_simp; with_reducible rfl
                  rotate_left; · simp only [Act.put, List.setIfInBounds_toArray, List.set_cons_zero, List.set_cons_succ, i64_w, i32_w]; rfl
                  refine pure_ (i := 4) (N := some 67) (v := ?_) (a' := ?_) #[true, true, true, false, true, false, false, false, false, false, false, false, false, false, false, false, false, false] rfl rfl (any_of HT_.out (by kernel_rfl)) (fun _ _ _ h => h) (Or.inl ⟨by rfl, ?_⟩) ?_ ?_
                  rotate_left; · intro w'; go_simp; with_reducible rfl
                  rotate_left; · simp only [Act.put, List.setIfInBounds_toArray, List.set_cons_zero, List.set_cons_succ, i64_w, i32_w]; rfl
                  refine pure_ (i := 5) (N := some 68) (v := ?_) (a' := ?_) #[true, true, true, false, true, true, false, false, false, false, false, false, false, false, false, false, false, false] rfl rfl (any_of HT_.out (by kernel_rfl)) (fun _ _ _ h => h) (Or.inl ⟨by rfl, ?_⟩) ?_ ?_
                  rotate_left; · intro w'; go_simp; with_reducible rfl
                  rotate_left; · simp only [Act.put, List.setIfInBounds_toArray, List.set_cons_zero, List.set_cons_succ, i64_w, i32_w]; rfl
                  refine take_ (i := 3) (N := some 66) (v := ?_) (a' := ?_) #[true, true, true, true, true, true, false, false, false, false, false, false, false, false, false, false, false, false] rfl rfl (take_ofW HT_.out HW_.out (by kernel_rfl)) (fun _ _ _ h => h) (Or.inl ⟨by rfl, ?_⟩) hHeld ?_ ?_
                  rotate_left
                  · rintro w' ⟨s0, s1⟩
                    go_simp; with_reducible rfl
                  rotate_left; · simp only [Act.put, List.setIfInBounds_toArray, List.set_cons_zero, List.set_cons_succ, i64_w, i32_w]; rfl
                  refine one_ (i := 6) (N := some 69) #[true, true, true, true, true, true, true, false, false, false, false, false, false, false, false, false, false, false] rfl rfl (one_of HT_.out (by kernel_rfl)) (by decide) (fun K hK => ?_)
                  refine goes_ Try.func19 (by kernel_rfl) rfl #[.pointer (some ⟨gc, 0, none⟩), .int .i64 (u : Int)] (by rfl) rfl rfl (by simp only [List.map_toArray, List.map_cons, List.map_nil]; rfl) ?_
                  with_reducible refine (HC1.out).mono ?_
                  rintro e wa ⟨rfl, rfl⟩
                  refine ⟨_, rfl, ?_⟩
                  refine hK.out _ _ ⟨(show (wr.drew).cell? _ = _ from qa), (show (wr.drew).cell? _ = _ from qb)⟩ (fun hHeld => ?_)
                  clear hK K
                  refine norm_ (a' := ?_) ?_ ?_
                  rotate_left
                  · show Act.put _ (some 69) _ = _
                    simp only [Act.put, List.setIfInBounds_toArray, List.set_cons_zero, List.set_cons_succ, i64_w, i32_w]; rfl
                  refine pure_ (i := 7) (N := some 70) (v := ?_) (a' := ?_) #[true, true, true, true, true, true, true, true, false, false, false, false, false, false, false, false, false, false] rfl rfl (any_of HT_.out (by kernel_rfl)) (fun _ _ _ h => h) (Or.inl ⟨by rfl, ?_⟩) ?_ ?_
                  rotate_left; · intro w'; go_simp; with_reducible rfl
                  rotate_left; · simp only [Act.put, List.setIfInBounds_toArray, List.set_cons_zero, List.set_cons_succ, i64_w, i32_w]; rfl
                  refine pure_ (i := 8) (N := some 71) (v := ?_) (a' := ?_) #[true, true, true, true, true, true, true, true, true, false, false, false, false, false, false, false, false, false] rfl rfl (any_of HT_.out (by kernel_rfl)) (fun _ _ _ h => h) (Or.inl ⟨by rfl, ?_⟩) ?_ ?_
                  rotate_left; · intro w'; go_simp; with_reducible rfl
                  rotate_left; · simp only [Act.put, List.setIfInBounds_toArray, List.set_cons_zero, List.set_cons_succ, i64_w, i32_w]; rfl
                  refine pure_ (i := 9) (N := some 72) (v := ?_) (a' := ?_) #[true, true, true, true, true, true, true, true, true, true, false, false, false, false, false, false, false, false] rfl rfl (any_of HT_.out (by kernel_rfl)) (fun _ _ _ h => h) (Or.inl ⟨by rfl, ?_⟩) ?_ ?_
                  rotate_left; · intro w'; go_simp; with_reducible rfl
                  rotate_left; · simp only [Act.put, List.setIfInBounds_toArray, List.set_cons_zero, List.set_cons_succ, i64_w, i32_w]; rfl
                  refine pure_ (i := 10) (N := some 73) (v := ?_) (a' := ?_) #[true, true, true, true, true, true, true, true, true, true, true, false, false, false, false, false, false, false] rfl rfl (any_of HT_.out (by kernel_rfl)) (fun _ _ _ h => h) (Or.inl ⟨by rfl, ?_⟩) ?_ ?_
                  rotate_left; · intro w'; go_simp; with_reducible rfl
                  rotate_left; · simp only [Act.put, List.setIfInBounds_toArray, List.set_cons_zero, List.set_cons_succ, i64_w, i32_w]; rfl
                  refine pure_ (i := 12) (N := some 75) (v := ?_) (a' := ?_) #[true, true, true, true, true, true, true, true, true, true, true, false, true, false, false, false, false, false] rfl rfl (any_of HT_.out (by kernel_rfl)) (fun _ _ _ h => h) (Or.inl ⟨by rfl, ?_⟩) ?_ ?_
                  rotate_left; · intro w'; go_simp; with_reducible rfl
                  rotate_left; · simp only [Act.put, List.setIfInBounds_toArray, List.set_cons_zero, List.set_cons_succ, i64_w, i32_w]; rfl
                  refine take_ (i := 13) (N := some 76) (v := ?_) (a' := ?_) #[true, true, true, true, true, true, true, true, true, true, true, false, true, true, false, false, false, false] rfl rfl (take_ofW HT_.out HW_.out (by kernel_rfl)) (fun _ _ _ h => h) (Or.inl ⟨by rfl, ?_⟩) hHeld ?_ ?_
                  rotate_left
                  · rintro w' ⟨s0, s1⟩
                    go_simp; with_reducible rfl
                  rotate_left; · simp only [Act.put, List.setIfInBounds_toArray, List.set_cons_zero, List.set_cons_succ, i64_w, i32_w]; rfl
                  refine one_ (i := 11) (N := some 74) #[true, true, true, true, true, true, true, true, true, true, true, true, true, true, false, false, false, false] rfl rfl (one_of HT_.out (by kernel_rfl)) (by decide) (fun K hK => ?_)
                  refine goes_ Try.func20 (by kernel_rfl) rfl #[.pointer (some ⟨gc, 0, none⟩), .int .i64 (u : Int)] (by rfl) rfl rfl (by simp only [List.map_toArray, List.map_cons, List.map_nil]; rfl) ?_
                  with_reducible refine (HC2.out).mono ?_
                  rintro e wa ⟨rfl, rfl⟩
                  refine ⟨_, rfl, ?_⟩
                  refine hK.out _ _ ⟨(show (wr.drew).cell? _ = _ from qa), (show (wr.drew).cell? _ = _ from qb)⟩ (fun hHeld => ?_)
                  clear hK K
                  refine norm_ (a' := ?_) ?_ ?_
                  rotate_left
                  · show Act.put _ (some 74) _ = _
                    simp only [Act.put, List.setIfInBounds_toArray, List.set_cons_zero, List.set_cons_succ, i64_w, i32_w]; rfl
                  refine pure_ (i := 14) (N := some 77) (v := ?_) (a' := ?_) #[true, true, true, true, true, true, true, true, true, true, true, true, true, true, true, false, false, false] rfl rfl (any_of HT_.out (by kernel_rfl)) (fun _ _ _ h => h) (Or.inl ⟨by rfl, ?_⟩) ?_ ?_
                  rotate_left; · intro w'; go_simp; with_reducible rfl
                  rotate_left; · simp only [Act.put, List.setIfInBounds_toArray, List.set_cons_zero, List.set_cons_succ, i64_w, i32_w]; rfl
                  refine pure_ (i := 15) (N := some 78) (v := ?_) (a' := ?_) #[true, true, true, true, true, true, true, true, true, true, true, true, true, true, true, true, false, false] rfl rfl (any_of HT_.out (by kernel_rfl)) (fun _ _ _ h => h) (Or.inl ⟨by rfl, ?_⟩) ?_ ?_
                  rotate_left; · intro w'; go_simp; with_reducible rfl
                  rotate_left; · simp only [Act.put, List.setIfInBounds_toArray, List.set_cons_zero, List.set_cons_succ, i64_w, i32_w]; rfl
                  refine pure_ (i := 16) (N := some 79) (v := ?_) (a' := ?_) #[true, true, true, true, true, true, true, true, true, true, true, true, true, true, true, true, true, false] rfl rfl (any_of HT_.out (by kernel_rfl)) (fun _ _ _ h => h) (Or.inl ⟨by rfl, ?_⟩) ?_ ?_
                  rotate_left; · intro w'; go_simp; with_reducible rfl
                  rotate_left; · simp only [Act.put, List.setIfInBounds_toArray, List.set_cons_zero, List.set_cons_succ, i64_w, i32_w]; rfl
                  refine pure_ (i := 17) (N := some 13) (v := ?_) (a' := ?_) #[true, true, true, true, true, true, true, true, true, true, true, true, true, true, true, true, true, true] rfl rfl (any_of HT_.out (by kernel_rfl)) (fun _ _ _ h => h) (Or.inl ⟨by rfl, ?_⟩) ?_ ?_
                  rotate_left; · intro w'; go_simp; with_reducible rfl
                  rotate_left; · simp only [Act.put, List.setIfInBounds_toArray, List.set_cons_zero, List.set_cons_succ, i64_w, i32_w]; rfl
                  refine done_ (done_of HT_.out (by kernel_rfl)) ?_
                  clear hHeld HT_ HW_
                  go_wp2
                  go_roundg k2
                  case measure => omega
                  case rel => exact ⟨j + 1, by go_num, by rw [HNX.out, e1]; rfl, Lib.hid ⟨by omega, HS5.out.1.drew, HS5.out.2.below (Below.refl _ _).drew⟩⟩
                · have e1 : decide (a ≤ (lw : Int)) = false := decide_eq_false h1
                  refine start_ (n := 18) (S := fun w' => w'.cell? ⟨g15, 0, none⟩ = some (.int .i64 a) ∧ w'.cell? ⟨g15, 1, none⟩ = some (.int .i64 b)) (ds := []) #[false, false, false, false, false, false, false, false, false, false, false, false, false, false, false, false, false, false] (by kernel_rfl) rfl rfl ⟨qa, qb⟩ (fun hHeld => ?_)
                  refine with_tabW tb7_16.tab16 tb7_16.bits16 (fun HT_ HW_ => ?_)
                  refine pure_ (i := 0) (N := some 63) (v := ?_) (a' := ?_) #[true, false, false, false, false, false, false, false, false, false, false, false, false, false, false, false, false, false] rfl rfl (any_of HT_.out (by kernel_rfl)) (fun _ _ _ h => h) (Or.inl ⟨by rfl, ?_⟩) ?_ ?_
                  rotate_left; · intro w'; go_simp; with_reducible rfl
                  rotate_left; · simp only [Act.put, List.setIfInBounds_toArray, List.set_cons_zero, List.set_cons_succ, i64_w, i32_w]; rfl
                  refine pure_ (i := 1) (N := some 64) (v := ?_) (a' := ?_) #[true, true, false, false, false, false, false, false, false, false, false, false, false, false, false, false, false, false] rfl rfl (any_of HT_.out (by kernel_rfl)) (fun _ _ _ h => h) (Or.inl ⟨by rfl, ?_⟩) ?_ ?_
                  rotate_left; · intro w'; go_simp; with_reducible rfl
                  rotate_left; · simp only [Act.put, List.setIfInBounds_toArray, List.set_cons_zero, List.set_cons_succ, i64_w, i32_w]; rfl
                  refine pure_ (i := 2) (N := some 65) (v := ?_) (a' := ?_) #[true, true, true, false, false, false, false, false, false, false, false, false, false, false, false, false, false, false] rfl rfl (any_of HT_.out (by kernel_rfl)) (fun _ _ _ h => h) (Or.inl ⟨by rfl, ?_⟩) ?_ ?_
                  rotate_left; · intro w'; go_simp; with_reducible rfl
                  rotate_left; · simp only [Act.put, List.setIfInBounds_toArray, List.set_cons_zero, List.set_cons_succ, i64_w, i32_w]; rfl
                  refine pure_ (i := 4) (N := some 67) (v := ?_) (a' := ?_) #[true, true, true, false, true, false, false, false, false, false, false, false, false, false, false, false, false, false] rfl rfl (any_of HT_.out (by kernel_rfl)) (fun _ _ _ h => h) (Or.inl ⟨by rfl, ?_⟩) ?_ ?_
                  rotate_left; · intro w'; go_simp; with_reducible rfl
                  rotate_left; · simp only [Act.put, List.setIfInBounds_toArray, List.set_cons_zero, List.set_cons_succ, i64_w, i32_w]; rfl
                  refine pure_ (i := 5) (N := some 68) (v := ?_) (a' := ?_) #[true, true, true, false, true, true, false, false, false, false, false, false, false, false, false, false, false, false] rfl rfl (any_of HT_.out (by kernel_rfl)) (fun _ _ _ h => h) (Or.inl ⟨by rfl, ?_⟩) ?_ ?_
                  rotate_left; · intro w'; go_simp; with_reducible rfl
                  rotate_left; · simp only [Act.put, List.setIfInBounds_toArray, List.set_cons_zero, List.set_cons_succ, i64_w, i32_w]; rfl
                  refine take_ (i := 3) (N := some 66) (v := ?_) (a' := ?_) #[true, true, true, true, true, true, false, false, false, false, false, false, false, false, false, false, false, false] rfl rfl (take_ofW HT_.out HW_.out (by kernel_rfl)) (fun _ _ _ h => h) (Or.inl ⟨by rfl, ?_⟩) hHeld ?_ ?_
                  rotate_left
                  · rintro w' ⟨s0, s1⟩
                    go_simp; with_reducible rfl
                  rotate_left; · simp only [Act.put, List.setIfInBounds_toArray, List.set_cons_zero, List.set_cons_succ, i64_w, i32_w]; rfl
                  refine one_ (i := 6) (N := some 69) #[true, true, true, true, true, true, true, false, false, false, false, false, false, false, false, false, false, false] rfl rfl (one_of HT_.out (by kernel_rfl)) (by decide) (fun K hK => ?_)
                  refine goes_ Try.func19 (by kernel_rfl) rfl #[.pointer (some ⟨gc, 0, none⟩), .int .i64 (u : Int)] (by rfl) rfl rfl (by simp only [List.map_toArray, List.map_cons, List.map_nil]; rfl) ?_
                  with_reducible refine (HC1.out).mono ?_
                  rintro e wa ⟨rfl, rfl⟩
                  refine ⟨_, rfl, ?_⟩
                  refine hK.out _ _ ⟨(show (wr.drew).cell? _ = _ from qa), (show (wr.drew).cell? _ = _ from qb)⟩ (fun hHeld => ?_)
                  clear hK K
                  refine norm_ (a' := ?_) ?_ ?_
                  rotate_left
                  · show Act.put _ (some 69) _ = _
                    simp only [Act.put, List.setIfInBounds_toArray, List.set_cons_zero, List.set_cons_succ, i64_w, i32_w]; rfl
                  refine pure_ (i := 7) (N := some 70) (v := ?_) (a' := ?_) #[true, true, true, true, true, true, true, true, false, false, false, false, false, false, false, false, false, false] rfl rfl (any_of HT_.out (by kernel_rfl)) (fun _ _ _ h => h) (Or.inl ⟨by rfl, ?_⟩) ?_ ?_
                  rotate_left; · intro w'; go_simp; with_reducible rfl
                  rotate_left; · simp only [Act.put, List.setIfInBounds_toArray, List.set_cons_zero, List.set_cons_succ, i64_w, i32_w]; rfl
                  refine pure_ (i := 8) (N := some 71) (v := ?_) (a' := ?_) #[true, true, true, true, true, true, true, true, true, false, false, false, false, false, false, false, false, false] rfl rfl (any_of HT_.out (by kernel_rfl)) (fun _ _ _ h => h) (Or.inl ⟨by rfl, ?_⟩) ?_ ?_
                  rotate_left; · intro w'; go_simp; with_reducible rfl
                  rotate_left; · simp only [Act.put, List.setIfInBounds_toArray, List.set_cons_zero, List.set_cons_succ, i64_w, i32_w]; rfl
                  refine pure_ (i := 9) (N := some 72) (v := undef) (a' := ?_) #[true, true, true, true, true, true, true, true, true, true, false, false, false, false, false, false, false, false] rfl rfl (any_of HT_.out (by kernel_rfl)) (fun _ _ _ h => h) (Or.inr ⟨by rfl, rfl⟩) ?_ ?_
                  rotate_left; · simp only [Act.put, List.setIfInBounds_toArray, List.set_cons_zero, List.set_cons_succ, i64_w, i32_w]; rfl
                  refine pure_ (i := 10) (N := some 73) (v := undef) (a' := ?_) #[true, true, true, true, true, true, true, true, true, true, true, false, false, false, false, false, false, false] rfl rfl (any_of HT_.out (by kernel_rfl)) (fun _ _ _ h => h) (Or.inr ⟨by rfl, rfl⟩) ?_ ?_
                  rotate_left; · simp only [Act.put, List.setIfInBounds_toArray, List.set_cons_zero, List.set_cons_succ, i64_w, i32_w]; rfl
                  refine pure_ (i := 11) (N := some 74) (v := undef) (a' := ?_) #[true, true, true, true, true, true, true, true, true, true, true, true, false, false, false, false, false, false] rfl rfl (any_of HT_.out (by kernel_rfl)) (fun _ _ _ h => h) (Or.inr ⟨by rfl, rfl⟩) ?_ ?_
                  rotate_left; · simp only [Act.put, List.setIfInBounds_toArray, List.set_cons_zero, List.set_cons_succ, i64_w, i32_w]; rfl
                  refine pure_ (i := 12) (N := some 75) (v := undef) (a' := ?_) #[true, true, true, true, true, true, true, true, true, true, true, true, true, false, false, false, false, false] rfl rfl (any_of HT_.out (by kernel_rfl)) (fun _ _ _ h => h) (Or.inr ⟨by rfl, rfl⟩) ?_ ?_
                  rotate_left; · simp only [Act.put, List.setIfInBounds_toArray, List.set_cons_zero, List.set_cons_succ, i64_w, i32_w]; rfl
                  refine pure_ (i := 13) (N := some 76) (v := undef) (a' := ?_) #[true, true, true, true, true, true, true, true, true, true, true, true, true, true, false, false, false, false] rfl rfl (any_of HT_.out (by kernel_rfl)) (fun _ _ _ h => h) (Or.inr ⟨by rfl, rfl⟩) ?_ ?_
                  rotate_left; · simp only [Act.put, List.setIfInBounds_toArray, List.set_cons_zero, List.set_cons_succ, i64_w, i32_w]; rfl
                  refine pure_ (i := 14) (N := some 77) (v := undef) (a' := ?_) #[true, true, true, true, true, true, true, true, true, true, true, true, true, true, true, false, false, false] rfl rfl (any_of HT_.out (by kernel_rfl)) (fun _ _ _ h => h) (Or.inr ⟨by rfl, rfl⟩) ?_ ?_
                  rotate_left; · simp only [Act.put, List.setIfInBounds_toArray, List.set_cons_zero, List.set_cons_succ, i64_w, i32_w]; rfl
                  refine pure_ (i := 15) (N := some 78) (v := ?_) (a' := ?_) #[true, true, true, true, true, true, true, true, true, true, true, true, true, true, true, true, false, false] rfl rfl (any_of HT_.out (by kernel_rfl)) (fun _ _ _ h => h) (Or.inl ⟨by rfl, ?_⟩) ?_ ?_
                  rotate_left; · intro w'; go_simp; with_reducible rfl
                  rotate_left; · simp only [Act.put, List.setIfInBounds_toArray, List.set_cons_zero, List.set_cons_succ, i64_w, i32_w]; rfl
                  refine pure_ (i := 16) (N := some 79) (v := ?_) (a' := ?_) #[true, true, true, true, true, true, true, true, true, true, true, true, true, true, true, true, true, false] rfl rfl (any_of HT_.out (by kernel_rfl)) (fun _ _ _ h => h) (Or.inl ⟨by rfl, ?_⟩) ?_ ?_
                  rotate_left; · intro w'; go_simp; with_reducible rfl
                  rotate_left; · simp only [Act.put, List.setIfInBounds_toArray, List.set_cons_zero, List.set_cons_succ, i64_w, i32_w]; rfl
                  refine pure_ (i := 17) (N := some 13) (v := ?_) (a' := ?_) #[true, true, true, true, true, true, true, true, true, true, true, true, true, true, true, true, true, true] rfl rfl (any_of HT_.out (by kernel_rfl)) (fun _ _ _ h => h) (Or.inl ⟨by rfl, ?_⟩) ?_ ?_
                  rotate_left; · intro w'; go_simp; with_reducible rfl
                  rotate_left; · simp only [Act.put, List.setIfInBounds_toArray, List.set_cons_zero, List.set_cons_succ, i64_w, i32_w]; rfl
                  refine done_ (done_of HT_.out (by kernel_rfl)) ?_
                  clear hHeld HT_ HW_
                  go_wp2
                  go_roundg k2
                  case measure => omega
                  case rel => exact ⟨j + 1, by go_num, by rw [HNX.out, e1]; rfl, Lib.hid ⟨by omega, HS5.out.1.drew, HS5.out.2.below (Below.refl _ _).drew⟩⟩
            · obtain rfl : j = (L1 u).length := by omega
              rw [List.take_length, HWT.out]
              have HBE := Lib.hid hbe
              have HPA := Lib.hid ((HK.out.below hbe).par_ hu)
              have HPO := Lib.hid (HLP.out.2 ▸ (HK.out.below hbe).post_ hu)
              have HNO := Lib.hid (HLP.out.2 ▸ (HK.out.below hbe).node_ hu)
              have HLO := Lib.hid (HLP.out.1 ▸ (HK.out.below hbe).low_ hu)
              have hpar := HK.out.r.par u hu
              have hpq := fun q => HK.out.parent (u := u) (p := q) hu
              obtain ⟨p, hp⟩ : ∃ p, (parsOf nn l).getD u 0 = p := ⟨_, rfl⟩
              rw [hp] at HPA hpar
              have HPQ := Lib.hid (And.intro hpar (hp ▸ hpq))
              clear hbe hrd hpar hpq hp hj hjk
              go_wp2_with fail
              refine HPA.out.mono ?_
              clear HPA
              rintro e wx ⟨rfl, rfl⟩
              go_upto_region 19 with (fail)
              go_cut [123] (fun v123 wc => v123 = .bool false ∧ Hid (Below wK.heap.size wK wc))
              case first =>
                go_wp2_with fail
                refine HPO.out.mono ?_
                rintro e wy ⟨rfl, rfl⟩
                go_wp2_with fail
                refine HNO.out.mono ?_
                rintro e wy ⟨rfl, rfl⟩
                rcases HPQ.out.1 with hm | ⟨q, hq1, hq2, _⟩
                · subst hm
                  go_wp2_with fail
                  go_meet
                  exact ⟨rfl, HBE⟩
                · obtain ⟨g1, g2, g3, g4⟩ := HPQ.out.2 q hq2
                  have HQL := Lib.hid ((HK.out.below HBE.out).low_ g1)
                  have HQP := Lib.hid ((HK.out.below HBE.out).post_ g1)
                  have HQR := Lib.hid ((HK.out.below HBE.out).reaches_ g1 hu)
                  rw [g4] at HQR
                  rw [HLP.out.1] at g2
                  rw [HLP.out.2] at g3
                  obtain ⟨lq, hlq⟩ : ∃ lq, lowN (parsOf nn l) q = lq := ⟨_, rfl⟩
                  obtain ⟨pq, hpq⟩ : ∃ pq, postN (parsOf nn l) q = pq := ⟨_, rfl⟩
                  rw [hlq] at g2 HQL
                  rw [hpq] at g3 HQP
                  subst hq2
                  have e1 : decide (lw < lq) = false := decide_eq_false (by omega)
                  have e2 : decide (pq ≤ po) = false := decide_eq_false (by omega)
                  have q0 : (0 : Int) ≤ (q : Int) := by omega
                  clear HPQ hlq hpq g4 hq1
                  go_wp2_with fail
                  refine HQL.out.mono ?_
                  rintro e wy ⟨rfl, rfl⟩
                  go_wp2_with fail
                  refine HLO.out.mono ?_
                  rintro e wy ⟨rfl, rfl⟩
                  go_wp2_with fail
                  refine HQP.out.mono ?_
                  rintro e wy ⟨rfl, rfl⟩
                  go_wp2_with fail
                  refine HPO.out.mono ?_
                  rintro e wy ⟨rfl, rfl⟩
                  go_wp2_with fail
                  refine HQR.out.mono ?_
                  rintro e wy ⟨rfl, hby⟩
                  have HBY := Lib.hid (HBE.out.trans (hby.mono HBE.out.size))
                  clear hby
                  go_wp2_with fail
                  go_meet
                  exact ⟨rfl, HBY⟩
              case rest =>
                obtain ⟨rfl, hbc⟩ := hcut
                clear HBE HPO HNO HLO HPQ
                go_wp2_with fail
                go_loopg [17] nn (fun kq v17 w' => ∃ v : Nat, v17 = .int .i64 (v : Int) ∧ Hid (v + kq = nn ∧ Below wK.heap.size wK w'))
                case atStart => exact ⟨0, rfl, Lib.hid ⟨by omega, hbc.out⟩⟩
                case round =>
                  clear hbc
                  obtain ⟨v, rfl, hI⟩ := hrel
                  obtain ⟨hvk, hbe⟩ := hI.out
                  clear hI
                  have HLA := Lib.hid (HK.out.below hbe).len_
                  have HBE := Lib.hid hbe
                  clear hbe
                  by_cases hv : v < nn
                  · obtain ⟨k3, rfl⟩ : ∃ k3, gk = k3 + 1 := ⟨gk - 1, by omega⟩
                    have v0 : (0 : Int) ≤ (v : Int) := by omega
                    have v1 : (v : Int) < (nn : Int) := by omega
                    go_wp2_with fail
                    refine HLA.out.mono ?_
                    clear HLA
                    rintro e wx ⟨rfl, rfl⟩
                    have HLB := Lib.hid ((HK.out.below HBE.out).label_ hu)
                    go_wp2_with fail
                    refine HLB.out.mono ?_
                    clear HLB
                    rintro e w5 ⟨vl, rfl, ho, hb5⟩
                    obtain ⟨Al, cl, rfl⟩ := Lw.own_slice ho
                    have HLS := Lib.hid (And.intro (HBE.out.trans (hb5.mono HBE.out.size)) (RdA.of_own (l := L1 u) ho).1)
                    have hin := HK.out.inOne hu hv
                    obtain ⟨pv, hpv⟩ : ∃ pv, postN (parsOf nn l) v = pv := ⟨_, rfl⟩
                    obtain ⟨b1, hb1⟩ : ∃ b1, rB (EA all) u v = b1 := ⟨_, rfl⟩
                    rw [hpv, hb1] at hin
                    have HIN := Lib.hid (And.intro hin hb1)
                    have HVP := Lib.hid hpv
                    clear hin hpv hb1 ho hb5 HBE
                    go_wp2_with fail
                    go_loopg [18, 134] (L1 u).length (fun kq v18 v134 w' => ∃ j : Nat, v134 = .int .i64 (j : Int) ∧ v18 = .bool (wh ((L1 u).take j) (pv : Int) (pv : Int)) ∧ Hid (j + kq = (L1 u).length ∧ Below wK.heap.size wK w' ∧ RdA w' Al (L1 u)))
                    case atStart => exact ⟨0, rfl, rfl, Lib.hid ⟨by omega, HLS.out.1, HLS.out.2⟩⟩
                    case round =>
                      clear HLS
                      obtain ⟨j, rfl, rfl, hI⟩ := hrel
                      obtain ⟨hjk, hbe, hrd⟩ := hI.out
                      clear hI
                      by_cases hj : j < (L1 u).length
                      · obtain ⟨k2, rfl⟩ : ∃ k2, gk = k2 + 1 := ⟨gk - 1, by omega⟩
                        obtain ⟨⟨a, b⟩, hxx⟩ : ∃ x, (L1 u)[j] = x := ⟨_, rfl⟩
                        have hx : (L1 u)[j]? = some (a, b) := by rw [List.getElem?_eq_getElem hj, hxx]
                        obtain ⟨bs, rfl, qa, qb⟩ := hrd j a b hx
                        have HNX := Lib.hid (wh_next (lo := (pv : Int)) (hi := (pv : Int)) hx)
                        have j0 : (0 : Int) ≤ (j : Int) := by omega
                        have j1 : (j : Int) < ((L1 u).length : Int) := by omega
                        have j2 : ((L1 u).length : Int) ≤ 256 := by have := HLN.out; omega
                        have HS := Lib.hid (And.intro hbe hrd)
                        obtain ⟨acc, hacc⟩ : ∃ acc, wh ((L1 u).take j) (pv : Int) (pv : Int) = acc := ⟨_, rfl⟩
                        rw [hacc] at HNX ⊢
                        clear hx hxx hbe hrd hacc
                        go_upto_region 28 with (fail)
                        refine gen_world (fun W => At W wr.heap.size [.int .i64 a, .int .i64 b] 55 ∧ Below wr.heap.size wr W) ?_ ?_
                        · exact ⟨At.made rfl rfl, (Below.refl _ _).alloc (Nat.le_refl _) _⟩
                        obtain ⟨g15, hg15⟩ : ∃ g15, wr.heap.size = g15 := ⟨_, rfl⟩
                        rw [hg15]
                        clear qa qb
                        rintro w5 ⟨hat, hb5⟩
                        rw [← hg15] at hb5
                        clear hg15
                        have HS5 := Lib.hid (And.intro (HS.out.1.trans (hb5.mono HS.out.1.size)) (HS.out.2.below hb5))
                        clear hb5 HS
                        obtain ⟨wr2, hwr2⟩ : ∃ wr2, w5 = wr2 := ⟨_, rfl⟩
                        rw [hwr2] at hat HS5 ⊢
                        clear hwr2 wr
                        obtain ⟨wr, hwr⟩ : ∃ wr, wr2 = wr := ⟨_, rfl⟩
                        rw [hwr] at hat HS5 ⊢
                        clear hwr
                        have qa := hat.cell 0 rfl
                        have qb := hat.cell 1 rfl
                        have hKd := HK.out.below (HS5.out.1.drew)
                        have HC1 := Lib.hid (HVP.out ▸ hKd.post_ hv)
                        have HC2 := Lib.hid (HVP.out ▸ hKd.post_ hv)
                        clear hat hKd
                        cases acc with
                        | true =>
                          clear HC1 HC2
                          refine start_ (n := 18) (S := fun w' => w'.cell? ⟨g15, 0, none⟩ = some (.int .i64 a) ∧ w'.cell? ⟨g15, 1, none⟩ = some (.int .i64 b)) (ds := []) #[false, false, false, false, false, false, false, false, false, false, false, false, false, false, false, false, false, false] (by kernel_rfl) rfl rfl ⟨qa, qb⟩ (fun hHeld => ?_)
                          refine with_tabW tb7_28.tab28 tb7_28.bits28 (fun HT_ HW_ => ?_)
                          refine pure_ (i := 0) (N := some 138) (v := ?_) (a' := ?_) #[true, false, false, false, false, false, false, false, false, false, false, false, false, false, false, false, false, false] rfl rfl (any_of HT_.out (by kernel_rfl)) (fun _ _ _ h => h) (Or.inl ⟨by rfl, ?_⟩) ?_ ?_
                          rotate_left; · intro w'; go_simp; with_reducible rfl
                          rotate_left; · simp only [Act.put, List.setIfInBounds_toArray, List.set_cons_zero, List.set_cons_succ, i64_w, i32_w]; rfl
                          refine pure_ (i := 1) (N := some 139) (v := ?_) (a' := ?_) #[true, true, false, false, false, false, false, false, false, false, false, false, false, false, false, false, false, false] rfl rfl (any_of HT_.out (by kernel_rfl)) (fun _ _ _ h => h) (Or.inl ⟨by rfl, ?_⟩) ?_ ?_
                          rotate_left; · intro w'; go_simp; with_reducible rfl
                          rotate_left; · simp only [Act.put, List.setIfInBounds_toArray, List.set_cons_zero, List.set_cons_succ, i64_w, i32_w]; rfl
                          refine pure_ (i := 2) (N := some 140) (v := undef) (a' := ?_) #[true, true, true, false, false, false, false, false, false, false, false, false, false, false, false, false, false, false] rfl rfl (any_of HT_.out (by kernel_rfl)) (fun _ _ _ h => h) (Or.inr ⟨by rfl, rfl⟩) ?_ ?_
                          rotate_left; · simp only [Act.put, List.setIfInBounds_toArray, List.set_cons_zero, List.set_cons_succ, i64_w, i32_w]; rfl
                          refine pure_ (i := 3) (N := some 141) (v := undef) (a' := ?_) #[true, true, true, true, false, false, false, false, false, false, false, false, false, false, false, false, false, false] rfl rfl (any_of HT_.out (by kernel_rfl)) (fun _ _ _ h => h) (Or.inr ⟨by rfl, rfl⟩) ?_ ?_
                          rotate_left; · simp only [Act.put, List.setIfInBounds_toArray, List.set_cons_zero, List.set_cons_succ, i64_w, i32_w]; rfl
                          refine pure_ (i := 4) (N := some 142) (v := undef) (a' := ?_) #[true, true, true, true, true, false, false, false, false, false, false, false, false, false, false, false, false, false] rfl rfl (any_of HT_.out (by kernel_rfl)) (fun _ _ _ h => h) (Or.inr ⟨by rfl, rfl⟩) ?_ ?_
                          rotate_left; · simp only [Act.put, List.setIfInBounds_toArray, List.set_cons_zero, List.set_cons_succ, i64_w, i32_w]; rfl
                          refine pure_ (i := 5) (N := some 143) (v := undef) (a' := ?_) #[true, true, true, true, true, true, false, false, false, false, false, false, false, false, false, false, false, false] rfl rfl (any_of HT_.out (by kernel_rfl)) (fun _ _ _ h => h) (Or.inr ⟨by rfl, rfl⟩) ?_ ?_
                          rotate_left; · simp only [Act.put, List.setIfInBounds_toArray, List.set_cons_zero, List.set_cons_succ, i64_w, i32_w]; rfl
                          refine pure_ (i := 6) (N := some 144) (v := undef) (a' := ?_) #[true, true, true, true, true, true, true, false, false, false, false, false, false, false, false, false, false, false] rfl rfl (any_of HT_.out (by kernel_rfl)) (fun _ _ _ h => h) (Or.inr ⟨by rfl, rfl⟩) ?_ ?_
                          rotate_left; · simp only [Act.put, List.setIfInBounds_toArray, List.set_cons_zero, List.set_cons_succ, i64_w, i32_w]; rfl
                          refine pure_ (i := 7) (N := some 145) (v := undef) (a' := ?_) #[true, true, true, true, true, true, true, true, false, false, false, false, false, false, false, false, false, false] rfl rfl (any_of HT_.out (by kernel_rfl)) (fun _ _ _ h => h) (Or.inr ⟨by rfl, rfl⟩) ?_ ?_
                          rotate_left; · simp only [Act.put, List.setIfInBounds_toArray, List.set_cons_zero, List.set_cons_succ, i64_w, i32_w]; rfl
                          refine pure_ (i := 8) (N := some 146) (v := undef) (a' := ?_) #[true, true, true, true, true, true, true, true, true, false, false, false, false, false, false, false, false, false] rfl rfl (any_of HT_.out (by kernel_rfl)) (fun _ _ _ h => h) (Or.inr ⟨by rfl, rfl⟩) ?_ ?_
                          rotate_left; · simp only [Act.put, List.setIfInBounds_toArray, List.set_cons_zero, List.set_cons_succ, i64_w, i32_w]; rfl
                          refine pure_ (i := 9) (N := some 147) (v := undef) (a' := ?_) #[true, true, true, true, true, true, true, true, true, true, false, false, false, false, false, false, false, false] rfl rfl (any_of HT_.out (by kernel_rfl)) (fun _ _ _ h => h) (Or.inr ⟨by rfl, rfl⟩) ?_ ?_
                          rotate_left; · simp only [Act.put, List.setIfInBounds_toArray, List.set_cons_zero, List.set_cons_succ, i64_w, i32_w]; rfl
                          refine pure_ (i := 10) (N := some 148) (v := undef) (a' := ?_) #[true, true, true, true, true, true, true, true, true, true, true, false, false, false, false, false, false, false] rfl rfl (any_of HT_.out (by kernel_rfl)) (fun _ _ _ h => h) (Or.inr ⟨by rfl, rfl⟩) ?_ ?_
                          rotate_left; · simp only [Act.put, List.setIfInBounds_toArray, List.set_cons_zero, List.set_cons_succ, i64_w, i32_w]; rfl
                          refine pure_ (i := 11) (N := some 149) (v := undef) (a' := ?_) #[true, true, true, true, true, true, true, true, true, true, true, true, false, false, false, false, false, false] rfl rfl (any_of HT_.out (by kernel_rfl)) (fun _ _ _ h => h) (Or.inr ⟨by rfl, rfl⟩) ?_ ?_
                          rotate_left; · simp only [Act.put, List.setIfInBounds_toArray, List.set_cons_zero, List.set_cons_succ, i64_w, i32_w]; rfl
                          refine pure_ (i := 12) (N := some 150) (v := undef) (a' := ?_) #[true, true, true, true, true, true, true, true, true, true, true, true, true, false, false, false, false, false] rfl rfl (any_of HT_.out (by kernel_rfl)) (fun _ _ _ h => h) (Or.inr ⟨by rfl, rfl⟩) ?_ ?_
                          rotate_left; · simp only [Act.put, List.setIfInBounds_toArray, List.set_cons_zero, List.set_cons_succ, i64_w, i32_w]; rfl
                          refine pure_ (i := 13) (N := some 151) (v := undef) (a' := ?_) #[true, true, true, true, true, true, true, true, true, true, true, true, true, true, false, false, false, false] rfl rfl (any_of HT_.out (by kernel_rfl)) (fun _ _ _ h => h) (Or.inr ⟨by rfl, rfl⟩) ?_ ?_
                          rotate_left; · simp only [Act.put, List.setIfInBounds_toArray, List.set_cons_zero, List.set_cons_succ, i64_w, i32_w]; rfl
                          refine pure_ (i := 14) (N := some 152) (v := undef) (a' := ?_) #[true, true, true, true, true, true, true, true, true, true, true, true, true, true, true, false, false, false] rfl rfl (any_of HT_.out (by kernel_rfl)) (fun _ _ _ h => h) (Or.inr ⟨by rfl, rfl⟩) ?_ ?_
                          rotate_left; · simp only [Act.put, List.setIfInBounds_toArray, List.set_cons_zero, List.set_cons_succ, i64_w, i32_w]; rfl
                          refine pure_ (i := 15) (N := some 153) (v := undef) (a' := ?_) #[true, true, true, true, true, true, true, true, true, true, true, true, true, true, true, true, false, false] rfl rfl (any_of HT_.out (by kernel_rfl)) (fun _ _ _ h => h) (Or.inr ⟨by rfl, rfl⟩) ?_ ?_
                          rotate_left; · simp only [Act.put, List.setIfInBounds_toArray, List.set_cons_zero, List.set_cons_succ, i64_w, i32_w]; rfl
                          refine pure_ (i := 16) (N := some 154) (v := ?_) (a' := ?_) #[true, true, true, true, true, true, true, true, true, true, true, true, true, true, true, true, true, false] rfl rfl (any_of HT_.out (by kernel_rfl)) (fun _ _ _ h => h) (Or.inl ⟨by rfl, ?_⟩) ?_ ?_
                          rotate_left; · intro w'; go_simp; with_reducible rfl
                          rotate_left; · simp only [Act.put, List.setIfInBounds_toArray, List.set_cons_zero, List.set_cons_succ, i64_w, i32_w]; rfl
                          refine pure_ (i := 17) (N := some 18) (v := ?_) (a' := ?_) #[true, true, true, true, true, true, true, true, true, true, true, true, true, true, true, true, true, true] rfl rfl (any_of HT_.out (by kernel_rfl)) (fun _ _ _ h => h) (Or.inl ⟨by rfl, ?_⟩) ?_ ?_
                          rotate_left; · intro w'; go_simp; with_reducible rfl
                          rotate_left; · simp only [Act.put, List.setIfInBounds_toArray, List.set_cons_zero, List.set_cons_succ, i64_w, i32_w]; rfl
                          refine done_ (done_of HT_.out (by kernel_rfl)) ?_
                          clear hHeld HT_ HW_
                          go_wp2
                          go_roundg k2
                          case measure => omega
                          case rel => exact ⟨j + 1, by go_num, by rw [HNX.out]; rfl, Lib.hid ⟨by omega, HS5.out.1.drew, HS5.out.2.below (Below.refl _ _).drew⟩⟩
                        | false =>
                          by_cases h1 : a ≤ (pv : Int)
                          · have e1 : decide (a ≤ (pv : Int)) = true := decide_eq_true h1
                            refine start_ (n := 18) (S := fun w' => w'.cell? ⟨g15, 0, none⟩ = some (.int .i64 a) ∧ w'.cell? ⟨g15, 1, none⟩ = some (.int .i64 b)) (ds := []) #[false, false, false, false, false, false, false, false, false, false, false, false, false, false, false, false, false, false] (by kernel_rfl) rfl rfl ⟨qa, qb⟩ (fun hHeld => ?_)
                            refine with_tabW tb7_28.tab28 tb7_28.bits28 (fun HT_ HW_ => ?_)
                            refine pure_ (i := 0) (N := some 138) (v := ?_) (a' := ?_) #[true, false, false, false, false, false, false, false, false, false, false, false, false, false, false, false, false, false] rfl rfl (any_of HT_.out (by kernel_rfl)) (fun _ _ _ h => h) (Or.inl ⟨by rfl, ?_⟩) ?_ ?_
                            rotate_left; · intro w'; go_simp; with_reducible rfl
                            rotate_left; · simp only [Act.put, List.setIfInBounds_toArray, List.set_cons_zero, List.set_cons_succ, i64_w, i32_w]; rfl
                            refine pure_ (i := 1) (N := some 139) (v := ?_) (a' := ?_) #[true, true, false, false, false, false, false, false, false, false, false, false, false, false, false, false, false, false] rfl rfl (any_of HT_.out (by kernel_rfl)) (fun _ _ _ h => h) (Or.inl ⟨by rfl, ?_⟩) ?_ ?_
                            rotate_left; · intro w'; go_simp; with_reducible rfl
                            rotate_left; · simp only [Act.put, List.setIfInBounds_toArray, List.set_cons_zero, List.set_cons_succ, i64_w, i32_w]; rfl
                            refine pure_ (i := 2) (N := some 140) (v := ?_) (a' := ?_) #[true, true, true, false, false, false, false, false, false, false, false, false, false, false, false, false, false, false] rfl rfl (any_of HT_.out (by kernel_rfl)) (fun _ _ _ h => h) (Or.inl ⟨by rfl, ?_⟩) ?_ ?_
                            rotate_left; · intro w'; go_simp; with_reducible rfl
                            rotate_left; · simp only [Act.put, List.setIfInBounds_toArray, List.set_cons_zero, List.set_cons_succ, i64_w, i32_w]; rfl
                            refine pure_ (i := 4) (N := some 142) (v := ?_) (a' := ?_) #[true, true, true, false, true, false, false, false, false, false, false, false, false, false, false, false, false, false] rfl rfl (any_of HT_.out (by kernel_rfl)) (fun _ _ _ h => h) (Or.inl ⟨by rfl, ?_⟩) ?_ ?_
                            rotate_left; · intro w'; go_simp; with_reducible rfl
                            rotate_left; · simp only [Act.put, List.setIfInBounds_toArray, List.set_cons_zero, List.set_cons_succ, i64_w, i32_w]; rfl
                            refine pure_ (i := 5) (N := some 143) (v := ?_) (a' := ?_) #[true, true, true, false, true, true, false, false, false, false, false, false, false, false, false, false, false, false] rfl rfl (any_of HT_.out (by kernel_rfl)) (fun _ _ _ h => h) (Or.inl ⟨by rfl, ?_⟩) ?_ ?_
                            rotate_left; · intro w'; go_simp; with_reducible rfl
                            rotate_left; · simp only [Act.put, List.setIfInBounds_toArray, List.set_cons_zero, List.set_cons_succ, i64_w, i32_w]; rfl
                            refine take_ (i := 3) (N := some 141) (v := ?_) (a' := ?_) #[true, true, true, true, true, true, false, false, false, false, false, false, false, false, false, false, false, false] rfl rfl (take_ofW HT_.out HW_.out (by kernel_rfl)) (fun _ _ _ h => h) (Or.inl ⟨by rfl, ?_⟩) hHeld ?_ ?_
                            rotate_left
                            · rintro w' ⟨s0, s1⟩
                              go_simp; with_reducible rfl
                            rotate_left; · simp only [Act.put, List.setIfInBounds_toArray, List.set_cons_zero, List.set_cons_succ, i64_w, i32_w]; rfl
                            refine one_ (i := 6) (N := some 144) #[true, true, true, true, true, true, true, false, false, false, false, false, false, false, false, false, false, false] rfl rfl (one_of HT_.out (by kernel_rfl)) (by decide) (fun K hK => ?_)
                            refine goes_ Try.func20 (by kernel_rfl) rfl #[.pointer (some ⟨gc, 0, none⟩), .int .i64 (v : Int)] (by rfl) rfl rfl (by simp only [List.map_toArray, List.map_cons, List.map_nil]; rfl) ?_
                            with_reducible refine (HC1.out).mono ?_
                            rintro e wa ⟨rfl, rfl⟩
                            refine ⟨_, rfl, ?_⟩
                            refine hK.out _ _ ⟨(show (wr.drew).cell? _ = _ from qa), (show (wr.drew).cell? _ = _ from qb)⟩ (fun hHeld => ?_)
                            clear hK K
                            refine norm_ (a' := ?_) ?_ ?_
                            rotate_left
                            · show Act.put _ (some 144) _ = _
                              simp only [Act.put, List.setIfInBounds_toArray, List.set_cons_zero, List.set_cons_succ, i64_w, i32_w]; rfl
                            refine pure_ (i := 7) (N := some 145) (v := ?_) (a' := ?_) #[true, true, true, true, true, true, true, true, false, false, false, false, false, false, false, false, false, false] rfl rfl (any_of HT_.out (by kernel_rfl)) (fun _ _ _ h => h) (Or.inl ⟨by rfl, ?_⟩) ?_ ?_
                            rotate_left; · intro w'; go_simp; with_reducible rfl
                            rotate_left; · simp only [Act.put, List.setIfInBounds_toArray, List.set_cons_zero, List.set_cons_succ, i64_w, i32_w]; rfl
                            refine pure_ (i := 8) (N := some 146) (v := ?_) (a' := ?_) #[true, true, true, true, true, true, true, true, true, false, false, false, false, false, false, false, false, false] rfl rfl (any_of HT_.out (by kernel_rfl)) (fun _ _ _ h => h) (Or.inl ⟨by rfl, ?_⟩) ?_ ?_
                            rotate_left; · intro w'; go_simp; with_reducible rfl
                            rotate_left; · simp only [Act.put, List.setIfInBounds_toArray, List.set_cons_zero, List.set_cons_succ, i64_w, i32_w]; rfl
                            refine pure_ (i := 9) (N := some 147) (v := ?_) (a' := ?_) #[true, true, true, true, true, true, true, true, true, true, false, false, false, false, false, false, false, false] rfl rfl (any_of HT_.out (by kernel_rfl)) (fun _ _ _ h => h) (Or.inl ⟨by rfl, ?_⟩) ?_ ?_
                            rotate_left; · intro w'; go_simp; with_reducible rfl
                            rotate_left; · simp only [Act.put, List.setIfInBounds_toArray, List.set_cons_zero, List.set_cons_succ, i64_w, i32_w]; rfl
                            refine pure_ (i := 10) (N := some 148) (v := ?_) (a' := ?_) #[true, true, true, true, true, true, true, true, true, true, true, false, false, false, false, false, false, false] rfl rfl (any_of HT_.out (by kernel_rfl)) (fun _ _ _ h => h) (Or.inl ⟨by rfl, ?_⟩) ?_ ?_
                            rotate_left; · intro w'; go_simp; with_reducible rfl
                            rotate_left; · simp only [Act.put, List.setIfInBounds_toArray, List.set_cons_zero, List.set_cons_succ, i64_w, i32_w]; rfl
                            refine pure_ (i := 12) (N := some 150) (v := ?_) (a' := ?_) #[true, true, true, true, true, true, true, true, true, true, true, false, true, false, false, false, false, false] rfl rfl (any_of HT_.out (by kernel_rfl)) (fun _ _ _ h => h) (Or.inl ⟨by rfl, ?_⟩) ?_ ?_
                            rotate_left; · intro w'; go_simp; with_reducible rfl
                            rotate_left; · simp only [Act.put, List.setIfInBounds_toArray, List.set_cons_zero, List.set_cons_succ, i64_w, i32_w]; rfl
                            refine take_ (i := 13) (N := some 151) (v := ?_) (a' := ?_) #[true, true, true, true, true, true, true, true, true, true, true, false, true, true, false, false, false, false] rfl rfl (take_ofW HT_.out HW_.out (by kernel_rfl)) (fun _ _ _ h => h) (Or.inl ⟨by rfl, ?_⟩) hHeld ?_ ?_
                            rotate_left
                            · rintro w' ⟨s0, s1⟩
                              go_simp; with_reducible rfl
                            rotate_left; · simp only [Act.put, List.setIfInBounds_toArray, List.set_cons_zero, List.set_cons_succ, i64_w, i32_w]; rfl
                            refine one_ (i := 11) (N := some 149) #[true, true, true, true, true, true, true, true, true, true, true, true, true, true, false, false, false, false] rfl rfl (one_of HT_.out (by kernel_rfl)) (by decide) (fun K hK => ?_)
                            refine goes_ Try.func20 (by kernel_rfl) rfl #[.pointer (some ⟨gc, 0, none⟩), .int .i64 (v : Int)] (by rfl) rfl rfl (by simp only [List.map_toArray, List.map_cons, List.map_nil]; rfl) ?_
                            with_reducible refine (HC1.out).mono ?_
                            rintro e wa ⟨rfl, rfl⟩
                            refine ⟨_, rfl, ?_⟩
                            refine hK.out _ _ ⟨(show (wr.drew).cell? _ = _ from qa), (show (wr.drew).cell? _ = _ from qb)⟩ (fun hHeld => ?_)
                            clear hK K
                            refine norm_ (a' := ?_) ?_ ?_
                            rotate_left
                            · show Act.put _ (some 149) _ = _
                              simp only [Act.put, List.setIfInBounds_toArray, List.set_cons_zero, List.set_cons_succ, i64_w, i32_w]; rfl
                            refine pure_ (i := 14) (N := some 152) (v := ?_) (a' := ?_) #[true, true, true, true, true, true, true, true, true, true, true, true, true, true, true, false, false, false] rfl rfl (any_of HT_.out (by kernel_rfl)) (fun _ _ _ h => h) (Or.inl ⟨by rfl, ?_⟩) ?_ ?_
                            rotate_left; · intro w'; go_simp; with_reducible rfl
                            rotate_left; · simp only [Act.put, List.setIfInBounds_toArray, List.set_cons_zero, List.set_cons_succ, i64_w, i32_w]; rfl
                            refine pure_ (i := 15) (N := some 153) (v := ?_) (a' := ?_) #[true, true, true, true, true, true, true, true, true, true, true, true, true, true, true, true, false, false] rfl rfl (any_of HT_.out (by kernel_rfl)) (fun _ _ _ h => h) (Or.inl ⟨by rfl, ?_⟩) ?_ ?_
                            rotate_left; · intro w'; go_simp; with_reducible rfl
                            rotate_left; · simp only [Act.put, List.setIfInBounds_toArray, List.set_cons_zero, List.set_cons_succ, i64_w, i32_w]; rfl
                            refine pure_ (i := 16) (N := some 154) (v := ?_) (a' := ?_) #[true, true, true, true, true, true, true, true, true, true, true, true, true, true, true, true, true, false] rfl rfl (any_of HT_.out (by kernel_rfl)) (fun _ _ _ h => h) (Or.inl ⟨by rfl, ?_⟩) ?_ ?_
                            rotate_left; · intro w'; go_simp; with_reducible rfl
                            rotate_left; · simp only [Act.put, List.setIfInBounds_toArray, List.set_cons_zero, List.set_cons_succ, i64_w, i32_w]; rfl
                            refine pure_ (i := 17) (N := some 18) (v := ?_) (a' := ?_) #[true, true, true, true, true, true, true, true, true, true, true, true, true, true, true, true, true, true] rfl rfl (any_of HT_.out (by kernel_rfl)) (fun _ _ _ h => h) (Or.inl ⟨by rfl, ?_⟩) ?_ ?_
                            rotate_left; · intro w'; go_simp; with_reducible rfl
                            rotate_left; · simp only [Act.put, List.setIfInBounds_toArray, List.set_cons_zero, List.set_cons_succ, i64_w, i32_w]; rfl
                            refine done_ (done_of HT_.out (by kernel_rfl)) ?_
                            clear hHeld HT_ HW_
                            go_wp2
                            go_roundg k2
                            case measure => omega
                            case rel => exact ⟨j + 1, by go_num, by rw [HNX.out, e1]; rfl, Lib.hid ⟨by omega, HS5.out.1.drew, HS5.out.2.below (Below.refl _ _).drew⟩⟩
                          · have e1 : decide (a ≤ (pv : Int)) = false := decide_eq_false h1
                            refine start_ (n := 18) (S := fun w' => w'.cell? ⟨g15, 0, none⟩ = some (.int .i64 a) ∧ w'.cell? ⟨g15, 1, none⟩ = some (.int .i64 b)) (ds := []) #[false, false, false, false, false, false, false, false, false, false, false, false, false, false, false, false, false, false] (by kernel_rfl) rfl rfl ⟨qa, qb⟩ (fun hHeld => ?_)
                            refine with_tabW tb7_28.tab28 tb7_28.bits28 (fun HT_ HW_ => ?_)
                            refine pure_ (i := 0) (N := some 138) (v := ?_) (a' := ?_) #[true, false, false, false, false, false, false, false, false, false, false, false, false, false, false, false, false, false] rfl rfl (any_of HT_.out (by kernel_rfl)) (fun _ _ _ h => h) (Or.inl ⟨by rfl, ?_⟩) ?_ ?_
                            rotate_left; · intro w'; go_simp; with_reducible rfl
                            rotate_left; · simp only [Act.put, List.setIfInBounds_toArray, List.set_cons_zero, List.set_cons_succ, i64_w, i32_w]; rfl
                            refine pure_ (i := 1) (N := some 139) (v := ?_) (a' := ?_) #[true, true, false, false, false, false, false, false, false, false, false, false, false, false, false, false, false, false] rfl rfl (any_of HT_.out (by kernel_rfl)) (fun _ _ _ h => h) (Or.inl ⟨by rfl, ?_⟩) ?_ ?_
                            rotate_left; · intro w'; go_simp; with_reducible rfl
                            rotate_left; · simp only [Act.put, List.setIfInBounds_toArray, List.set_cons_zero, List.set_cons_succ, i64_w, i32_w]; rfl
                            refine pure_ (i := 2) (N := some 140) (v := ?_) (a' := ?_) #[true, true, true, false, false, false, false, false, false, false, false, false, false, false, false, false, false, false] rfl rfl (any_of HT_.out (by kernel_rfl)) (fun _ _ _ h => h) (Or.inl ⟨by rfl, ?_⟩) ?_ ?_
                            rotate_left; · intro w'; go_simp; with_reducible rfl
                            rotate_left; · simp only [Act.put, List.setIfInBounds_toArray, List.set_cons_zero, List.set_cons_succ, i64_w, i32_w]; rfl
                            refine pure_ (i := 4) (N := some 142) (v := ?_) (a' := ?_) #[true, true, true, false, true, false, false, false, false, false, false, false, false, false, false, false, false, false] rfl rfl (any_of HT_.out (by kernel_rfl)) (fun _ _ _ h => h) (Or.inl ⟨by rfl, ?_⟩) ?_ ?_
                            rotate_left; · intro w'; go_simp; with_reducible rfl
                            rotate_left; · simp only [Act.put, List.setIfInBounds_toArray, List.set_cons_zero, List.set_cons_succ, i64_w, i32_w]; rfl
                            refine pure_ (i := 5) (N := some 143) (v := ?_) (a' := ?_) #[true, true, true, false, true, true, false, false, false, false, false, false, false, false, false, false, false, false] rfl rfl (any_of HT_.out (by kernel_rfl)) (fun _ _ _ h => h) (Or.inl ⟨by rfl, ?_⟩) ?_ ?_
                            rotate_left; · intro w'; go_simp; with_reducible rfl
                            rotate_left; · simp only [Act.put, List.setIfInBounds_toArray, List.set_cons_zero, List.set_cons_succ, i64_w, i32_w]; rfl
                            refine take_ (i := 3) (N := some 141) (v := ?_) (a' := ?_) #[true, true, true, true, true, true, false, false, false, false, false, false, false, false, false, false, false, false] rfl rfl (take_ofW HT_.out HW_.out (by kernel_rfl)) (fun _ _ _ h => h) (Or.inl ⟨by rfl, ?_⟩) hHeld ?_ ?_
                            rotate_left
                            · rintro w' ⟨s0, s1⟩
                              go_simp; with_reducible rfl
                            rotate_left; · simp only [Act.put, List.setIfInBounds_toArray, List.set_cons_zero, List.set_cons_succ, i64_w, i32_w]; rfl
                            refine one_ (i := 6) (N := some 144) #[true, true, true, true, true, true, true, false, false, false, false, false, false, false, false, false, false, false] rfl rfl (one_of HT_.out (by kernel_rfl)) (by decide) (fun K hK => ?_)
                            refine goes_ Try.func20 (by kernel_rfl) rfl #[.pointer (some ⟨gc, 0, none⟩), .int .i64 (v : Int)] (by rfl) rfl rfl (by simp only [List.map_toArray, List.map_cons, List.map_nil]; rfl) ?_
                            with_reducible refine (HC1.out).mono ?_
                            rintro e wa ⟨rfl, rfl⟩
                            refine ⟨_, rfl, ?_⟩
                            refine hK.out _ _ ⟨(show (wr.drew).cell? _ = _ from qa), (show (wr.drew).cell? _ = _ from qb)⟩ (fun hHeld => ?_)
                            clear hK K
                            refine norm_ (a' := ?_) ?_ ?_
                            rotate_left
                            · show Act.put _ (some 144) _ = _
                              simp only [Act.put, List.setIfInBounds_toArray, List.set_cons_zero, List.set_cons_succ, i64_w, i32_w]; rfl
                            refine pure_ (i := 7) (N := some 145) (v := ?_) (a' := ?_) #[true, true, true, true, true, true, true, true, false, false, false, false, false, false, false, false, false, false] rfl rfl (any_of HT_.out (by kernel_rfl)) (fun _ _ _ h => h) (Or.inl ⟨by rfl, ?_⟩) ?_ ?_
                            rotate_left; · intro w'; go_simp; with_reducible rfl
                            rotate_left; · simp only [Act.put, List.setIfInBounds_toArray, List.set_cons_zero, List.set_cons_succ, i64_w, i32_w]; rfl
                            refine pure_ (i := 8) (N := some 146) (v := ?_) (a' := ?_) #[true, true, true, true, true, true, true, true, true, false, false, false, false, false, false, false, false, false] rfl rfl (any_of HT_.out (by kernel_rfl)) (fun _ _ _ h => h) (Or.inl ⟨by rfl, ?_⟩) ?_ ?_
                            rotate_left; · intro w'; go_simp; with_reducible rfl
                            rotate_left; · simp only [Act.put, List.setIfInBounds_toArray, List.set_cons_zero, List.set_cons_succ, i64_w, i32_w]; rfl
                            refine pure_ (i := 9) (N := some 147) (v := undef) (a' := ?_) #[true, true, true, true, true, true, true, true, true, true, false, false, false, false, false, false, false, false] rfl rfl (any_of HT_.out (by kernel_rfl)) (fun _ _ _ h => h) (Or.inr ⟨by rfl, rfl⟩) ?_ ?_
                            rotate_left; · simp only [Act.put, List.setIfInBounds_toArray, List.set_cons_zero, List.set_cons_succ, i64_w, i32_w]; rfl
                            refine pure_ (i := 10) (N := some 148) (v := undef) (a' := ?_) #[true, true, true, true, true, true, true, true, true, true, true, false, false, false, false, false, false, false] rfl rfl (any_of HT_.out (by kernel_rfl)) (fun _ _ _ h => h) (Or.inr ⟨by rfl, rfl⟩) ?_ ?_
                            rotate_left; · simp only [Act.put, List.setIfInBounds_toArray, List.set_cons_zero, List.set_cons_succ, i64_w, i32_w]; rfl
                            refine pure_ (i := 11) (N := some 149) (v := undef) (a' := ?_) #[true, true, true, true, true, true, true, true, true, true, true, true, false, false, false, false, false, false] rfl rfl (any_of HT_.out (by kernel_rfl)) (fun _ _ _ h => h) (Or.inr ⟨by rfl, rfl⟩) ?_ ?_
                            rotate_left; · simp only [Act.put, List.setIfInBounds_toArray, List.set_cons_zero, List.set_cons_succ, i64_w, i32_w]; rfl
                            refine pure_ (i := 12) (N := some 150) (v := undef) (a' := ?_) #[true, true, true, true, true, true, true, true, true, true, true, true, true, false, false, false, false, false] rfl rfl (any_of HT_.out (by kernel_rfl)) (fun _ _ _ h => h) (Or.inr ⟨by rfl, rfl⟩) ?_ ?_
                            rotate_left; · simp only [Act.put, List.setIfInBounds_toArray, List.set_cons_zero, List.set_cons_succ, i64_w, i32_w]; rfl
                            refine pure_ (i := 13) (N := some 151) (v := undef) (a' := ?_) #[true, true, true, true, true, true, true, true, true, true, true, true, true, true, false, false, false, false] rfl rfl (any_of HT_.out (by kernel_rfl)) (fun _ _ _ h => h) (Or.inr ⟨by rfl, rfl⟩) ?_ ?_
                            rotate_left; · simp only [Act.put, List.setIfInBounds_toArray, List.set_cons_zero, List.set_cons_succ, i64_w, i32_w]; rfl
                            refine pure_ (i := 14) (N := some 152) (v := undef) (a' := ?_) #[true, true, true, true, true, true, true, true, true, true, true, true, true, true, true, false, false, false] rfl rfl (any_of HT_.out (by kernel_rfl)) (fun _ _ _ h => h) (Or.inr ⟨by rfl, rfl⟩) ?_ ?_
                            rotate_left; · simp only [Act.put, List.setIfInBounds_toArray, List.set_cons_zero, List.set_cons_succ, i64_w, i32_w]; rfl
                            refine pure_ (i := 15) (N := some 153) (v := ?_) (a' := ?_) #[true, true, true, true, true, true, true, true, true, true, true, true, true, true, true, true, false, false] rfl rfl (any_of HT_.out (by kernel_rfl)) (fun _ _ _ h => h) (Or.inl ⟨by rfl, ?_⟩) ?_ ?_
                            rotate_left; · intro w'; go_simp; with_reducible rfl
                            rotate_left; · simp only [Act.put, List.setIfInBounds_toArray, List.set_cons_zero, List.set_cons_succ, i64_w, i32_w]; rfl
                            refine pure_ (i := 16) (N := some 154) (v := ?_) (a' := ?_) #[true, true, true, true, true, true, true, true, true, true, true, true, true, true, true, true, true, false] rfl rfl (any_of HT_.out (by kernel_rfl)) (fun _ _ _ h => h) (Or.inl ⟨by rfl, ?_⟩) ?_ ?_
                            rotate_left; · intro w'; go_simp; with_reducible rfl
                            rotate_left; · simp only [Act.put, List.setIfInBounds_toArray, List.set_cons_zero, List.set_cons_succ, i64_w, i32_w]; rfl
                            refine pure_ (i := 17) (N := some 18) (v := ?_) (a' := ?_) #[true, true, true, true, true, true, true, true, true, true, true, true, true, true, true, true, true, true] rfl rfl (any_of HT_.out (by kernel_rfl)) (fun _ _ _ h => h) (Or.inl ⟨by rfl, ?_⟩) ?_ ?_
                            rotate_left; · intro w'; go_simp; with_reducible rfl
                            rotate_left; · simp only [Act.put, List.setIfInBounds_toArray, List.set_cons_zero, List.set_cons_succ, i64_w, i32_w]; rfl
                            refine done_ (done_of HT_.out (by kernel_rfl)) ?_
                            clear hHeld HT_ HW_
                            go_wp2
                            go_roundg k2
                            case measure => omega
                            case rel => exact ⟨j + 1, by go_num, by rw [HNX.out, e1]; rfl, Lib.hid ⟨by omega, HS5.out.1.drew, HS5.out.2.below (Below.refl _ _).drew⟩⟩
                      · obtain rfl : j = (L1 u).length := by omega
                        rw [List.take_length, HIN.out.1]
                        have HBE := Lib.hid hbe
                        have HR1 := Lib.hid (HIN.out.2 ▸ (HK.out.below hbe).reaches_ hu hv)
                        clear hbe hrd hj hjk
                        go_upto_region 30 with (fail)
                        go_cut [175] (fun v175 wc => v175 = .bool false ∧ Hid (Below wK.heap.size wK wc))
                        case first =>
                          go_wp2_with fail
                          refine HR1.out.mono ?_
                          rintro e wy ⟨rfl, hby⟩
                          have HBY := Lib.hid (HBE.out.trans (hby.mono HBE.out.size))
                          clear hby HR1 HBE
                          by_cases huv : u = v
                          · subst huv
                            cases b1
                            all_goals go_wp2_with fail
                            all_goals go_meet
                            all_goals exact ⟨rfl, HBY⟩
                          · have e1 : ((u : Int) == (v : Int)) = false := beq_eq_false_iff_ne.2 (by omega)
                            have e2 : (u == v) = false := beq_eq_false_iff_ne.2 huv
                            cases b1 with
                            | false =>
                              go_wp2_with fail
                              go_meet
                              exact ⟨rfl, HBY⟩
                            | true =>
                              have hr2 : rB (EA all) v u = false := by
                                cases hr : rB (EA all) v u with
                                | false => rfl
                                | true => exact absurd (HK.out.a.anti u v hu hv (rB_iff.1 HIN.out.2) (rB_iff.1 hr)) huv
                              have HR2 := Lib.hid (hr2 ▸ (HK.out.below HBY.out).reaches_ hv hu)
                              clear hr2
                              go_wp2_with fail
                              refine HR2.out.mono ?_
                              rintro e wy ⟨rfl, hby⟩
                              have HBY2 := Lib.hid (HBY.out.trans (hby.mono HBY.out.size))
                              clear hby
                              go_wp2_with fail
                              go_meet
                              exact ⟨rfl, HBY2⟩
                        case rest =>
                          obtain ⟨rfl, hbc⟩ := hcut
                          clear HBE HR1
                          go_wp2_with fail
                          go_loopg [21] nn (fun kq v21 w' => ∃ x : Nat, v21 = .int .i64 (x : Int) ∧ Hid (x + kq = nn ∧ Below wK.heap.size wK w'))
                          case atStart => exact ⟨0, rfl, Lib.hid ⟨by omega, hbc.out⟩⟩
                          case round =>
                            clear hbc
                            obtain ⟨x, rfl, hI⟩ := hrel
                            obtain ⟨hxk, hbe⟩ := hI.out
                            clear hI
                            have HLX := Lib.hid (HK.out.below hbe).len_
                            have HBE := Lib.hid hbe
                            clear hbe
                            go_wp2_with fail
                            refine HLX.out.mono ?_
                            clear HLX
                            rintro e wx ⟨rfl, rfl⟩
                            by_cases hx : x < nn
                            · obtain ⟨k4, rfl⟩ : ∃ k4, gk = k4 + 1 := ⟨gk - 1, by omega⟩
                              have x0 : (0 : Int) ≤ (x : Int) := by omega
                              have x1 : (x : Int) < (nn : Int) := by omega
                              cases b1 with
                              | false =>
                                go_wp2
                                go_roundg k3
                                case measure => omega
                                case rel => exact ⟨v + 1, by go_num, Lib.hid ⟨by omega, HBE.out⟩⟩
                              | true =>
                                obtain ⟨b2, hb2⟩ : ∃ b2, rB (EA all) v x = b2 := ⟨_, rfl⟩
                                have HR2 := Lib.hid (hb2 ▸ (HK.out.below HBE.out).reaches_ hv hx)
                                have HB2 := Lib.hid hb2
                                clear hb2
                                go_wp2_with fail
                                refine HR2.out.mono ?_
                                clear HR2
                                rintro e wy ⟨rfl, hby⟩
                                have HBY := Lib.hid (HBE.out.trans (hby.mono HBE.out.size))
                                clear hby HBE
                                cases b2 with
                                | false =>
                                  go_wp2
                                  go_roundg k4
                                  case measure => omega
                                  case rel => exact ⟨x + 1, by go_num, Lib.hid ⟨by omega, HBY.out⟩⟩
                                | true =>
                                  have hr3 : rB (EA all) u x = true := rB_iff.2 ((rB_iff.1 HIN.out.2).trans (rB_iff.1 HB2.out))
                                  have HR3 := Lib.hid (hr3 ▸ (HK.out.below HBY.out).reaches_ hu hx)
                                  clear hr3
                                  go_wp2_with fail
                                  refine HR3.out.mono ?_
                                  clear HR3
                                  rintro e wy ⟨rfl, hby⟩
                                  have HBZ := Lib.hid (HBY.out.trans (hby.mono HBY.out.size))
                                  clear hby
                                  go_wp2
                                  go_roundg k4
                                  case measure => omega
                                  case rel => exact ⟨x + 1, by go_num, Lib.hid ⟨by omega, HBZ.out⟩⟩
                            · obtain rfl : nn = x := by omega
                              go_wp2
                              go_roundg k3
                              case measure => omega
                              case rel => exact ⟨v + 1, by go_num, Lib.hid ⟨by omega, HBE.out⟩⟩
                  · obtain rfl : nn = v := by omega
                    go_wp2_with fail
                    refine HLA.out.mono ?_
                    clear HLA
                    rintro e wx ⟨rfl, rfl⟩
                    go_wp2
                    go_roundg k1
                    case measure => omega
                    case rel => exact ⟨u + 1, by go_num, Lib.hid ⟨by omega, HBE.out⟩⟩
        · obtain rfl : nn = u := by omega
          go_wp2_with fail
          refine HLA.out.mono ?_
          clear HLA
          rintro e wx ⟨rfl, rfl⟩
          go_wp2
          go_ret
          exact ⟨rfl, HTB.out.trans (HBE.out.mono HTB.out.size)⟩

end Go.Proofs.Ytdohfjidnbhfnaa.Lc
