/- cover: the closure that numbers the nodes. -/
import Derived.Test.YtdohfjidnbhfnaaGo23
import Derived.Test.YtdohfjidnbhfnaaGo20
namespace Go.Proofs.Ytdohfjidnbhfnaa.Cv
open Go Go.RowKit Go.Proofs.Ytdohfjidnbhfnaa.Mem Go.Proofs.Ytdohfjidnbhfnaa.Tj Go.Proofs.YtdohfjidnbhfnaaW.PrintWords Go.Proofs.YtdohfjidnbhfnaaW.PrintLast
attribute [local go_sem ↓] Go.wp_at_zero Go.wp_at_succ
set_option linter.unusedSimpArgs false
set_option linter.unusedVariables false

def setN (nd : List Nd) (x : Nat) (po lo : Int) : List Nd := match nd[x]? with
  | some d => nd.set x { d with post := po, low := lo }
  | none => nd
theorem setN_length (nd : List Nd) (x : Nat) (po lo : Int) : (setN nd x po lo).length = nd.length := by
  unfold setN
  split <;> simp
def asg (ℓ : Nat → Nat) : List Nat → Nat → List Nd → List Nd
  | [], _, nd => nd
  | x :: L, nx, nd => asg ℓ L (nx + 1) (setN nd x (nx : Int) ((nx - ℓ x : Nat) : Int))
def asgA : List Nat → Nat → List Int → List Int
  | [], _, al => al
  | x :: L, nx, al => asgA L (nx + 1) (al.set nx (x : Int))
theorem asg_append (ℓ : Nat → Nat) : ∀ (a b : List Nat) (nx : Nat) (nd : List Nd), asg ℓ (a ++ b) nx nd = asg ℓ b (nx + a.length) (asg ℓ a nx nd)
  | [], b, nx, nd => rfl
  | x :: a, b, nx, nd => by
    rw [List.cons_append, asg, asg, asg_append ℓ a b, List.length_cons, show nx + 1 + a.length = nx + (a.length + 1) by omega]
theorem asgA_append : ∀ (a b : List Nat) (nx : Nat) (al : List Int), asgA (a ++ b) nx al = asgA b (nx + a.length) (asgA a nx al)
  | [], b, nx, al => rfl
  | x :: a, b, nx, al => by
    rw [List.cons_append, asgA, asgA, asgA_append a b, List.length_cons, show nx + 1 + a.length = nx + (a.length + 1) by omega]
theorem asg_length (ℓ : Nat → Nat) : ∀ (a : List Nat) (nx : Nat) (nd : List Nd), (asg ℓ a nx nd).length = nd.length
  | [], _, _ => rfl
  | x :: a, nx, nd => by rw [asg, asg_length ℓ a, setN_length]
structure Env (w : World) (bk bd bc bo gc gn ga bx n : Nat) (kids : List (List Nat)) (vals : List Value) : Prop where
  hbk : At w bk [.slice (some ⟨bo, 0, none⟩) (n + 1) (n + 1)] 95
  hbd : At w bd [.func (.func 44) #[] #[.pointer (some ⟨bx, 0, none⟩), .pointer (some ⟨bk, 0, none⟩), .pointer (some ⟨bd, 0, none⟩), .pointer (some ⟨bc, 0, none⟩)]] 96
  hbc : At w bc [.pointer (some ⟨gc, 0, none⟩)] 23
  hgc : At w gc [.slice (some ⟨gn, 0, none⟩) n n, .slice (some ⟨ga, 0, none⟩) (n + 1) (n + 1)] 65
  hbo : At w bo vals 24
  rows : ∀ (u : Nat) (r : List Nat), kids[u]? = some r → ∃ A c, vals[u]? = some (.slice A r.length c) ∧ (r = [] ∨ ∃ b cs, A = some ⟨b, 0, none⟩ ∧ At w b cs 3 ∧ b ≠ ga ∧ b ≠ bx ∧ ∀ (j x : Nat), r[j]? = some x → cs[j]? = some (.int .i64 (x : Int)))
  lk : kids.length = n + 1
structure Mut (w : World) (gn ga bx n : Nat) (nd : List Nd) (al : List Int) (nx : Nat) : Prop where
  hgn : At w gn (nds nd) 62
  hga : At w ga (ints al) 3
  hbx : At w bx [.int .i64 (nx : Int)] 3
  ne : ga ≠ bx
  ln : nd.length = n
  la : al.length = n + 1
def MutB (gn ga bx k : Nat) : Prop := k = gn ∨ k = ga ∨ k = bx
section
variable {w w' : World} {bk bd bc bo gc gn ga bx n nx nx' : Nat} {kids : List (List Nat)} {vals : List Value} {nd nd' : List Nd} {al al' : List Int}
theorem Mut.not (m : Mut w gn ga bx n nd al nx) {b : Nat} {cs : List Value} {T : TypeId} (hb : At w b cs T) (h1 : T ≠ 62) (h2 : T ≠ 3) : ¬ MutB gn ga bx b := by
  rintro (h | h | h)
  · exact hb.ne m.hgn h1 h
  · exact hb.ne m.hga h2 h
  · exact hb.ne m.hbx h2 h
theorem Env.kept (h : Env w bk bd bc bo gc gn ga bx n kids vals) (m : Mut w gn ga bx n nd al nx) (hk : Kpt (MutB gn ga bx) w w') : Env w' bk bd bc bo gc gn ga bx n kids vals := by
  refine ⟨h.hbk.kept hk (m.not h.hbk (by decide) (by decide)), h.hbd.kept hk (m.not h.hbd (by decide) (by decide)), h.hbc.kept hk (m.not h.hbc (by decide) (by decide)), h.hgc.kept hk (m.not h.hgc (by decide) (by decide)), h.hbo.kept hk (m.not h.hbo (by decide) (by decide)), fun u r hr => ?_, h.lk⟩
  obtain ⟨A, c, h1, h2⟩ := h.rows u r hr
  refine ⟨A, c, h1, h2.imp id ?_⟩
  rintro ⟨b, cs, e1, e2, e3, e4, e5⟩
  refine ⟨b, cs, e1, e2.kept hk ?_, e3, e4, e5⟩
  rintro (h | h | h)
  · exact e2.ne m.hgn (by decide) h
  · exact e3 h
  · exact e4 h
end

theorem belL_cons {f : Int → Option (List Nat)} {x : Nat} {r L : List Nat} (h : belL f (x :: r) = some L) : ∃ a b, f (x : Int) = some a ∧ belL f r = some b ∧ L = a ++ x :: b := by
  rw [belL] at h
  cases ha : f (x : Int) with
  | none => rw [ha] at h; cases h
  | some a =>
    rw [ha, Option.bind_some] at h
    cases hb : belL f r with
    | none => rw [hb] at h; cases h
    | some b =>
      rw [hb] at h
      exact ⟨a, b, rfl, rfl, (Option.some.inj h).symm⟩

def kidsT (pars : List Int) (n : Nat) : List (List Nat) := (List.range (n + 1)).map fun j : Nat => kidsOf pars ((j : Int) - 1)
def tl (j : Nat) : List Nat := match j with
  | 0 => []
  | p + 1 => [p]

def tb44_7.T7 : Bool × List (List Nat × List Nat) := (true, [([], []), ([0], [0]), ([1], [1]), ([2], [2]), ([], []), ([], []), ([5], [5]), ([6], [6]), ([7], [7]), ([], []), ([], []), ([10], [10]), ([11], [11]), ([12], [12]), ([], []), ([], []), ([], []), ([], []), ([3, 4, 0, 1, 2, 3, 4, 8, 13, 15], [3, 4]), ([18, 0, 1, 2, 3, 4, 8, 13, 15], [18]), ([19, 15, 0, 1, 2, 3, 4, 8, 13, 15], [15, 19]), ([8, 9, 0, 1, 2, 3, 4, 5, 6, 7, 8, 9, 13, 15, 16, 18, 19, 20], [8, 9]), ([21, 0, 1, 2, 3, 4, 5, 6, 7, 8, 9, 13, 15, 16, 18, 19, 20], [21]), ([22, 16, 20, 0, 1, 2, 3, 4, 5, 6, 7, 8, 9, 13, 15, 16, 18, 19, 20], [16, 22]), ([13, 14, 0, 1, 2, 3, 4, 5, 6, 7, 8, 9, 10, 11, 12, 13, 14, 15, 16, 17, 18, 19, 20, 21, 22, 23], [13, 14]), ([24, 17, 23, 0, 1, 2, 3, 4, 5, 6, 7, 8, 9, 10, 11, 12, 13, 14, 15, 16, 17, 18, 19, 20, 21, 22, 23], [17, 24])])
def tb44_7.B7 : List Nat := [0, 1, 3, 7, 0, 0, 32, 96, 224, 0, 0, 1024, 3072, 7168, 0, 0, 0, 0, 48639, 310783, 835071, 1949695, 4046847, 8241151, 16777215, 33554431]
theorem tb44_7.tab7 : rtab .any (opsOf Try.f44 7) = tb44_7.T7 := by kernel_rfl
theorem tb44_7.bits7 : waitsOk tb44_7.T7.2 tb44_7.B7 = true := by kernel_rfl
set_option maxHeartbeats 8000000 in
set_option maxRecDepth 100000 in
theorem down_calls (bk bd bc bo gc gn ga bx n : Nat) (pars : List Int) (rk : Nat → Nat) (hrk : Rk n pars rk) (hn : n ≤ 1000) (vals : List Value) : ∀ (k j : Nat) (L : List Nat) (w : World) (nd : List Nd) (al : List Int) (nx : Nat),
    bel pars k ((j : Int) - 1) = some L → j ≤ n → Env w bk bd bc bo gc gn ga bx n (kidsT pars n) vals → Mut w gn ga bx n nd al nx → nx + L.length + (tl j).length ≤ n + 1 →
    Calls Try.prog 44 #[.int .i64 ((j : Int) - 1), .pointer (some ⟨bx, 0, none⟩), .pointer (some ⟨bk, 0, none⟩), .pointer (some ⟨bd, 0, none⟩), .pointer (some ⟨bc, 0, none⟩)] w fun e w' => e = .returned (.tuple #[]) ∧
      Mut w' gn ga bx n (asg (fun x => (bl pars (x : Int)).length) (L ++ tl j) nx nd) (asgA (L ++ tl j) nx al) (nx + (L ++ tl j).length) ∧ Kpt (MutB gn ga bx) w w' := by
  intro k
  induction k with
  | zero => intro j L w nd al nx hL; cases hL
  | succ k ih =>
    intro j L w nd al nx hL hj hE hM hb
    have hval : Val n ((j : Int) - 1) := by
      rcases Nat.eq_zero_or_pos j with h | h
      · exact .inl (by omega)
      · exact .inr ⟨j - 1, by omega, by omega⟩
    have hLb : bl pars ((j : Int) - 1) = L := (bel_bl hrk hval hL).symm
    clear hval
    rw [bel] at hL
    obtain ⟨r, hr⟩ : ∃ r, kidsOf pars ((j : Int) - 1) = r := ⟨_, rfl⟩
    rw [hr] at hL
    have hkj : (kidsT pars n)[j]? = some r := by
      unfold kidsT
      rw [List.getElem?_map, List.getElem?_range (by omega)]
      simp [hr]
    have hrl : r.length ≤ n := by
      rw [← hr]
      have := List.length_filter_le (fun v => decide (pars.getD v 0 = (j : Int) - 1)) (List.range pars.length)
      rw [List.length_range] at this
      exact Nat.le_trans this (Nat.le_of_eq hrk.len)
    have hrm : ∀ x ∈ r, x < n := fun x hx => (hrk.kid (hr ▸ hx)).1
    obtain ⟨A, c, hv, hrows⟩ := hE.rows j r hkj
    obtain ⟨m, hm⟩ : ∃ m, n + 1 = m := ⟨_, rfl⟩
    have c0 := hM.hbx.cell 0 rfl
    have c1 := hE.hbk.cell 0 rfl
    have c2 := hE.hbo.cell j hv
    rw [hm] at c1
    have j0 : (0 : Int) ≤ (j : Int) := by omega
    have j1 : (j : Int) < (m : Int) := by omega
    have j2 : (m : Int) ≤ 1001 := by omega
    have e0 : (j : Int) - 1 + 1 = (j : Int) := by omega
    obtain ⟨len, hlen⟩ : ∃ len, r.length = len := ⟨_, rfl⟩
    rw [hlen] at c2
    have HX := Lib.hid (And.intro hL (And.intro hE (And.intro hM (And.intro hb (And.intro hrm (And.intro hrows (And.intro hLb (And.intro hlen hrl))))))))
    have HM := Lib.hid hm
    clear hL hE hM hb hrm hrows hLb hlen hrl hkj hr hv hm
    go_enter Try.func44, Try.ntmps44
    go_wp2
    clear c0 c1 c2 e0
    go_loopg [16] len (fun kq v16 w' => ∃ i : Nat, v16 = .int .i64 (i : Int) ∧ Hid (∃ acc rest, i + kq = len ∧ belL (bel pars k) (r.drop i) = some rest ∧ L = acc ++ rest ∧ Mut w' gn ga bx n (asg (fun x => (bl pars (x : Int)).length) acc nx nd) (asgA acc nx al) (nx + acc.length) ∧ Kpt (MutB gn ga bx) w w'))
    case atStart => exact ⟨0, rfl, Lib.hid ⟨[], L, by omega, HX.out.1, rfl, HX.out.2.2.1, Kpt.refl _ _⟩⟩
    case round =>
      obtain ⟨i, rfl, hI⟩ := hrel
      obtain ⟨acc, rest, hik, hbl, hLa, hMw, hk⟩ := hI.out
      clear hI
      have hEw := HX.out.2.1.kept HX.out.2.2.1 hk
      by_cases hi : i < len
      · obtain ⟨k1, rfl⟩ : ∃ k1, gk = k1 + 1 := ⟨gk - 1, by omega⟩
        have hir : i < r.length := by rw [HX.out.2.2.2.2.2.2.2.1]; exact hi
        obtain ⟨x, hx⟩ : ∃ x, r[i]? = some x := ⟨_, List.getElem?_eq_getElem hir⟩
        rw [List.drop_eq_getElem_cons hir, show r[i] = x by rw [List.getElem?_eq_getElem hir] at hx; exact Option.some.inj hx] at hbl
        obtain ⟨a, b, ha, hbb, hab⟩ := belL_cons hbl
        have hxn : x < n := HX.out.2.2.2.2.1 x (List.mem_of_getElem? hx)
        rcases HX.out.2.2.2.2.2.1 with h0 | ⟨bb, cs, rfl, hcs, ne1, ne2, hcx⟩
        · rw [h0] at hir
          simp at hir
        have hcs2 := hcs.kept hk (by
          rintro (h | h | h)
          · exact hcs.ne HX.out.2.2.1.hgn (by decide) h
          · exact ne1 h
          · exact ne2 h)
        have d1 := hcs2.cell i (hcx i x hx)
        have d2 := hEw.hbd.cell 0 rfl
        have hLL : (acc ++ (a ++ x :: b)).length = L.length := by rw [hLa, hab]
        have hih := ih (x + 1) a wr _ _ (nx + acc.length) (by rw [show ((x + 1 : Nat) : Int) - 1 = (x : Int) by omega]; exact ha) (by omega) hEw hMw (by
          have := HX.out.2.2.2.1
          simp only [List.length_append, List.length_cons] at hLL
          simp only [tl, List.length_cons, List.length_nil]
          omega)
        rw [show ((x + 1 : Nat) : Int) - 1 = (x : Int) by omega] at hih
        have HIH := Lib.hid hih
        have i0 : (0 : Int) ≤ (i : Int) := by omega
        have i1 : (i : Int) < (len : Int) := by omega
        have i2 : (len : Int) ≤ 1000 := by have := HX.out.2.2.2.2.2.2.2.2; have := HX.out.2.2.2.2.2.2.2.1; omega
        have HP := Lib.hid (And.intro hik (And.intro hbb (And.intro (hLa.trans (by rw [hab])) (And.intro hk hxn))))
        clear hih hik hbl ha hbb hab hLa hLL hk hxn hcs hcs2 hcx hx hir hMw hEw ne1 ne2
        go_wp2_with fail
        refine HIH.out.mono ?_
        rintro e w2 ⟨rfl, hM2, hk2⟩
        have H2 := Lib.hid (And.intro hM2 hk2)
        clear hM2 hk2 HIH d1 d2
        go_wp2_with fail
        go_roundg k1
        case measure => omega
        case rel =>
          obtain ⟨hik, hbb, hLa, hk, hxn⟩ := HP.out
          refine ⟨i + 1, by go_num, Lib.hid ⟨acc ++ (a ++ [x]), b, by omega, hbb, by rw [hLa]; simp, ?_, hk.trans H2.out.2⟩⟩
          have h5 := H2.out.1
          rw [asg_append, asgA_append, List.length_append, ← Nat.add_assoc]
          exact h5
      · rw [List.drop_of_length_le (by have := HX.out.2.2.2.2.2.2.2.1; omega), belL] at hbl
        obtain rfl := Option.some.inj hbl
        rw [List.append_nil] at hLa
        subst hLa
        have i0 : (len : Int) ≤ (i : Int) := by omega
        cases j with
        | zero =>
          have e1 : decide (((0 : Nat) : Int) - 1 ≥ 0) = false := by decide
          have HQ := Lib.hid (And.intro hMw hk)
          clear hMw hk hEw hik hi
          go_wp2
          go_end0
          exact ⟨rfl, by rw [show tl 0 = [] from rfl, List.append_nil]; exact HQ.out.1, HQ.out.2⟩
        | succ p =>
          have ep : (((p + 1 : Nat) : Int) - 1) = (p : Int) := by omega
          rw [ep]
          have e1 : decide ((p : Int) ≥ 0) = true := by simp
          obtain ⟨nz, hnz⟩ : ∃ nz, nx + L.length = nz := ⟨_, rfl⟩
          rw [hnz] at hMw
          have c0 := hEw.hbc.cell 0 rfl
          have c1 := hEw.hgc.cell 0 rfl
          have c2 := hEw.hgc.cell 1 rfl
          have c3 := hMw.hbx.cell 0 rfl
          have hpn : p < n := by omega
          have hzn : nz < n + 1 := by have := HX.out.2.2.2.1; simp only [tl, List.length_cons, List.length_nil] at this; omega
          have f1 := hMw.hgn.free (p * 4 + 2)
          have f2 := hMw.hgn.free (p * 4 + 1)
          have f3 := hMw.hga.free nz
          have f4 := hMw.hbx.free 0
          have n1 := hMw.hgn.ne hMw.hga (by decide)
          have n2 := hMw.hgn.ne hMw.hbx (by decide)
          have n3 := hMw.ne
          rw [HM.out] at c2 hzn
          have hac := hEw.hgc
          rw [HM.out] at hac
          have HAC := Lib.hid hac
          have HEW := Lib.hid hEw
          have HMW := Lib.hid hMw
          have nbc : bc ≠ gn := hEw.hbc.ne hMw.hgn (by decide)
          have ngc : gc ≠ gn := hEw.hgc.ne hMw.hgn (by decide)
          have nbx : bx ≠ gn := hMw.hbx.ne hMw.hgn (by decide)
          clear hac
          obtain ⟨d, hd⟩ : ∃ d, (asg (fun x => (bl pars (x : Int)).length) L nx nd)[p]? = some d := ⟨_, List.getElem?_eq_getElem (by rw [hMw.ln]; exact hpn)⟩
          obtain ⟨z, hz⟩ : ∃ z, (asgA L nx al)[nz]? = some z := ⟨_, List.getElem?_eq_getElem (by rw [hMw.la, HM.out]; exact hzn)⟩
          have c5 := hMw.hgn.cell _ (nds_at _ p d hd).2.2.1
          have c6 := hMw.hgn.cell _ (nds_at _ p d hd).2.1
          have c7 := hMw.hga.cell nz (Mem.ints_at _ hz)
          have p0 : (0 : Int) ≤ (p : Int) := by omega
          have p1 : (p : Int) < (n : Int) := by omega
          have p2 : (n : Int) ≤ 1000 := by omega
          have z0 : (0 : Int) ≤ (nz : Int) := by omega
          have z1 : (nz : Int) < (m : Int) := by omega
          have z2 : (m : Int) ≤ 1001 := by have := HM.out; omega
          have HQ := Lib.hid (And.intro hMw (And.intro hk (And.intro hd (And.intro hz (And.intro hnz hEw)))))
          clear hMw hk hd hz hnz hpn hzn hik hi hEw ep
          go_upto_region 7 with (fail)
          refine start_ (n := 26) (S := fun w' => w'.cell? ⟨bc, 0, none⟩ = some (.pointer (some ⟨gc, 0, none⟩)) ∧ w'.cell? ⟨gc, 0, none⟩ = some (.slice (some ⟨gn, 0, none⟩) n n) ∧ w'.cell? ⟨gc, 1, none⟩ = some (.slice (some ⟨ga, 0, none⟩) m m) ∧ w'.cell? ⟨bx, 0, none⟩ = some (.int .i64 (nz : Int))) (ds := [25]) (bA 26 0) (by kernel_rfl) rfl rfl ⟨c0, c1, c2, c3⟩ (fun hHeld => ?_)
          refine with_tabW tb44_7.tab7 tb44_7.bits7 (fun HT_ HW_ => ?_)
          refine pure_ (i := 4) (N := some 30) (v := ?_) (a' := ?_) (bA 26 16) rfl rfl (any_of HT_.out (by kernel_rfl)) (fun _ _ _ h => h) (Or.inl ⟨by rfl, ?_⟩) ?_ ?_
          rotate_left; · intro w'; go_simp; with_reducible rfl
          rotate_left; · simp only [Act.put, pA, pB, pC, pD, pE]; rfl
          refine pure_ (i := 9) (N := some 35) (v := ?_) (a' := ?_) (bA 26 528) rfl rfl (any_of HT_.out (by kernel_rfl)) (fun _ _ _ h => h) (Or.inl ⟨by rfl, ?_⟩) ?_ ?_
          rotate_left; · intro w'; go_simp; with_reducible rfl
          rotate_left; · simp only [Act.put, pA, pB, pC, pD, pE]; rfl
          refine pure_ (i := 15) (N := some 41) (v := ?_) (a' := ?_) (bA 26 33296) rfl rfl (any_of HT_.out (by kernel_rfl)) (fun _ _ _ h => h) (Or.inl ⟨by rfl, ?_⟩) ?_ ?_
          rotate_left; · intro w'; go_simp; with_reducible rfl
          rotate_left; · simp only [Act.put, pA, pB, pC, pD, pE]; rfl
          refine pure_ (i := 17) (N := some 43) (v := ?_) (a' := ?_) (bA 26 164368) rfl rfl (any_of HT_.out (by kernel_rfl)) (fun _ _ _ h => h) (Or.inl ⟨by rfl, ?_⟩) ?_ ?_
          rotate_left; · intro w'; go_simp; with_reducible rfl
          rotate_left; · simp only [Act.put, pA, pB, pC, pD, pE]; rfl
          refine take_ (i := 0) (N := some 26) (v := ?_) (a' := ?_) (bA 26 164369) rfl rfl (take_ofW HT_.out HW_.out (by kernel_rfl)) (fun _ _ _ h => h) (Or.inl ⟨by rfl, ?_⟩) hHeld ?_ ?_
          rotate_left
          · rintro w' ⟨s0, s1, s2, s3⟩
            go_simp; with_reducible rfl
          rotate_left; · simp only [Act.put, pA, pB, pC, pD, pE]; rfl
          refine pure_ (i := 1) (N := some 27) (v := ?_) (a' := ?_) (bA 26 164371) rfl rfl (any_of HT_.out (by kernel_rfl)) (fun _ _ _ h => h) (Or.inl ⟨by rfl, ?_⟩) ?_ ?_
          rotate_left; · intro w'; go_simp; with_reducible rfl
          rotate_left; · simp only [Act.put, pA, pB, pC, pD, pE]; rfl
          refine pure_ (i := 2) (N := some 28) (v := ?_) (a' := ?_) (bA 26 164375) rfl rfl (any_of HT_.out (by kernel_rfl)) (fun _ _ _ h => h) (Or.inl ⟨by rfl, ?_⟩) ?_ ?_
          rotate_left; · intro w'; go_simp; with_reducible rfl
          rotate_left; · simp only [Act.put, pA, pB, pC, pD, pE]; rfl
          refine take_ (i := 3) (N := some 29) (v := ?_) (a' := ?_) (bA 26 164383) rfl rfl (take_ofW HT_.out HW_.out (by kernel_rfl)) (fun _ _ _ h => h) (Or.inl ⟨by rfl, ?_⟩) hHeld ?_ ?_
          rotate_left
          · rintro w' ⟨s0, s1, s2, s3⟩
            go_simp; with_reducible rfl
          rotate_left; · simp only [Act.put, pA, pB, pC, pD, pE]; rfl
          refine take_ (i := 5) (N := some 31) (v := ?_) (a' := ?_) (bA 26 164415) rfl rfl (take_ofW HT_.out HW_.out (by kernel_rfl)) (fun _ _ _ h => h) (Or.inl ⟨by rfl, ?_⟩) hHeld ?_ ?_
          rotate_left
          · rintro w' ⟨s0, s1, s2, s3⟩
            go_simp; with_reducible rfl
          rotate_left; · simp only [Act.put, pA, pB, pC, pD, pE]; rfl
          refine pure_ (i := 6) (N := some 32) (v := ?_) (a' := ?_) (bA 26 164479) rfl rfl (any_of HT_.out (by kernel_rfl)) (fun _ _ _ h => h) (Or.inl ⟨by rfl, ?_⟩) ?_ ?_
          rotate_left; · intro w'; go_simp; with_reducible rfl
          rotate_left; · simp only [Act.put, pA, pB, pC, pD, pE]; rfl
          refine pure_ (i := 7) (N := some 33) (v := ?_) (a' := ?_) (bA 26 164607) rfl rfl (any_of HT_.out (by kernel_rfl)) (fun _ _ _ h => h) (Or.inl ⟨by rfl, ?_⟩) ?_ ?_
          rotate_left; · intro w'; go_simp; with_reducible rfl
          rotate_left; · simp only [Act.put, pA, pB, pC, pD, pE]; rfl
          refine take_ (i := 8) (N := some 34) (v := ?_) (a' := ?_) (bA 26 164863) rfl rfl (take_ofW HT_.out HW_.out (by kernel_rfl)) (fun _ _ _ h => h) (Or.inl ⟨by rfl, ?_⟩) hHeld ?_ ?_
          rotate_left
          · rintro w' ⟨s0, s1, s2, s3⟩
            go_simp; with_reducible rfl
          rotate_left; · simp only [Act.put, pA, pB, pC, pD, pE]; rfl
          refine take_ (i := 10) (N := some 36) (v := ?_) (a' := ?_) (bA 26 165887) rfl rfl (take_ofW HT_.out HW_.out (by kernel_rfl)) (fun _ _ _ h => h) (Or.inl ⟨by rfl, ?_⟩) hHeld ?_ ?_
          rotate_left
          · rintro w' ⟨s0, s1, s2, s3⟩
            go_simp; with_reducible rfl
          rotate_left; · simp only [Act.put, pA, pB, pC, pD, pE]; rfl
          refine pure_ (i := 11) (N := some 37) (v := ?_) (a' := ?_) (bA 26 167935) rfl rfl (any_of HT_.out (by kernel_rfl)) (fun _ _ _ h => h) (Or.inl ⟨by rfl, ?_⟩) ?_ ?_
          rotate_left; · intro w'; go_simp; with_reducible rfl
          rotate_left; · simp only [Act.put, pA, pB, pC, pD, pE]; rfl
          refine pure_ (i := 12) (N := some 38) (v := ?_) (a' := ?_) (bA 26 172031) rfl rfl (any_of HT_.out (by kernel_rfl)) (fun _ _ _ h => h) (Or.inl ⟨by rfl, ?_⟩) ?_ ?_
          rotate_left; · intro w'; go_simp; with_reducible rfl
          rotate_left; · simp only [Act.put, pA, pB, pC, pD, pE]; rfl
          refine take_ (i := 13) (N := some 39) (v := ?_) (a' := ?_) (bA 26 180223) rfl rfl (take_ofW HT_.out HW_.out (by kernel_rfl)) (fun _ _ _ h => h) (Or.inl ⟨by rfl, ?_⟩) hHeld ?_ ?_
          rotate_left
          · rintro w' ⟨s0, s1, s2, s3⟩
            go_simp; with_reducible rfl
          rotate_left; · simp only [Act.put, pA, pB, pC, pD, pE]; rfl
          refine pure_ (i := 18) (N := some 44) (v := ?_) (a' := ?_) (bA 26 442367) rfl rfl (any_of HT_.out (by kernel_rfl)) (fun _ _ _ h => h) (Or.inl ⟨by rfl, ?_⟩) ?_ ?_
          rotate_left; · intro w'; go_simp; with_reducible rfl
          rotate_left; · simp only [Act.put, pA, pB, pC, pD, pE]; rfl
          refine pure_ (i := 19) (N := some 45) (v := ?_) (a' := ?_) (bA 26 966655) rfl rfl (any_of HT_.out (by kernel_rfl)) (fun _ _ _ h => h) (Or.inl ⟨by rfl, ?_⟩) ?_ ?_
          rotate_left; · intro w'; go_simp; with_reducible rfl
          rotate_left; · simp only [Act.put, pA, pB, pC, pD, pE]; rfl
          refine take_ (i := 14) (N := some 40) (v := ?_) (a' := ?_) (bA 26 983039) rfl rfl (take_ofW HT_.out HW_.out (by kernel_rfl)) (fun _ _ _ h => h) (Or.inl ⟨by rfl, ?_⟩) hHeld ?_ ?_
          rotate_left
          · rintro w' ⟨s0, s1, s2, s3⟩
            go_simp; with_reducible rfl
          rotate_left; · simp only [Act.put, pA, pB, pC, pD, pE]; rfl
          refine take_ (i := 16) (N := some 42) (v := ?_) (a' := ?_) (bA 26 1048575) rfl rfl (take_ofW HT_.out HW_.out (by kernel_rfl)) (fun _ _ _ h => h) (Or.inl ⟨by rfl, ?_⟩) hHeld ?_ ?_
          rotate_left
          · rintro w' ⟨s0, s1, s2, s3⟩
            go_simp; with_reducible rfl
          rotate_left; · simp only [Act.put, pA, pB, pC, pD, pE]; rfl
          refine one_ (i := 20) (N := none) (bA 26 2097151) rfl rfl (one_of HT_.out (by kernel_rfl)) (by decide) (fun K hK => ?_)
          refine skip_ (w1 := ?_) (by rfl) rfl ?_ ?_
          rotate_left; · go_simp; rfl
          refine hK.out _ _ ⟨((HEW.out.hbc.drew.off nbc).cell 0 rfl), ((HEW.out.hgc.drew.off ngc).cell 0 rfl), ((HAC.out.drew.off ngc).cell 1 rfl), ((HMW.out.hbx.drew.off nbx).cell 0 rfl)⟩ (fun hHeld => ?_)
          clear hK K
          refine pure_ (i := 21) (N := some 46) (v := ?_) (a' := ?_) (bA 26 4194303) rfl rfl (any_of HT_.out (by kernel_rfl)) (fun _ _ _ h => h) (Or.inl ⟨by rfl, ?_⟩) ?_ ?_
          rotate_left; · intro w'; go_simp; with_reducible rfl
          rotate_left; · simp only [Act.put, pA, pB, pC, pD, pE]; rfl
          refine pure_ (i := 22) (N := some 47) (v := ?_) (a' := ?_) (bA 26 8388607) rfl rfl (any_of HT_.out (by kernel_rfl)) (fun _ _ _ h => h) (Or.inl ⟨by rfl, ?_⟩) ?_ ?_
          rotate_left; · intro w'; go_simp; with_reducible rfl
          rotate_left; · simp only [Act.put, pA, pB, pC, pD, pE]; rfl
          refine one_ (i := 23) (N := none) (bA 26 16777215) rfl rfl (one_of HT_.out (by kernel_rfl)) (by decide) (fun K hK => ?_)
          refine skip_ (w1 := ?_) (by rfl) rfl ?_ ?_
          rotate_left; · go_simp; rfl
          refine hK.out _ _ ⟨(((HEW.out.hbc.drew.off nbc).off nbc).cell 0 rfl), (((HEW.out.hgc.drew.off ngc).off ngc).cell 0 rfl), (((HAC.out.drew.off ngc).off ngc).cell 1 rfl), (((HMW.out.hbx.drew.off nbx).off nbx).cell 0 rfl)⟩ (fun hHeld => ?_)
          clear hK K
          refine pure_ (i := 24) (N := some 48) (v := ?_) (a' := ?_) (bA 26 33554431) rfl rfl (any_of HT_.out (by kernel_rfl)) (fun _ _ _ h => h) (Or.inl ⟨by rfl, ?_⟩) ?_ ?_
          rotate_left; · intro w'; go_simp; with_reducible rfl
          rotate_left; · simp only [Act.put, pA, pB, pC, pD, pE]; rfl
          refine last_ (i := 25) (N := none) (bA 26 67108863) rfl rfl (one_of HT_.out (by kernel_rfl)) (by decide) (fun K hK => ?_)
          refine skip_ (w1 := ?_) (by rfl) rfl ?_ ?_
          rotate_left; · go_simp; rfl
          refine hK.out _ _ ?_; clear hK K
          refine done_ (done_of HT_.out (by kernel_rfl)) ?_
          clear hHeld HT_ HW_
          have hset : nds ((asg (fun x => (bl pars (x : Int)).length) L nx nd).set p { d with post := (nz : Int), low := (nx : Int) }) = ((nds (asg (fun x => (bl pars (x : Int)).length) L nx nd)).set (p * 4 + 2) (.int .i64 (nx : Int))).set (p * 4 + 1) (.int .i64 (nz : Int)) := by
            have h1 := nds_set _ p 2 (.int .i64 (nx : Int)) d { d with low := (nx : Int) } HQ.out.2.2.1 (by omega) rfl
            rw [h1]
            have h2 := nds_set ((asg (fun x => (bl pars (x : Int)).length) L nx nd).set p { d with low := (nx : Int) }) p 1 (.int .i64 (nz : Int)) { d with low := (nx : Int) } { d with post := (nz : Int), low := (nx : Int) } (by rw [List.getElem?_set_self (List.getElem?_eq_some_iff.1 HQ.out.2.2.1).1]) (by omega) rfl
            rw [h2, List.set_set]
          have hfinal : asg (fun x => (bl pars (x : Int)).length) (L ++ tl (p + 1)) nx nd = (asg (fun x => (bl pars (x : Int)).length) L nx nd).set p { d with post := (nz : Int), low := (nx : Int) } := by
            rw [asg_append, HQ.out.2.2.2.2.1, show tl (p + 1) = [p] from rfl, asg, asg, setN, HQ.out.2.2.1]
            dsimp only
            have hlb := HX.out.2.2.2.2.2.2.1
            rw [show ((p + 1 : Nat) : Int) - 1 = (p : Int) by omega] at hlb
            rw [hlb, ← HQ.out.2.2.2.2.1, Nat.add_sub_cancel]
          have hfinA : asgA (L ++ tl (p + 1)) nx al = (asgA L nx al).set nz (p : Int) := by
            rw [asgA_append, HQ.out.2.2.2.2.1, show tl (p + 1) = [p] from rfl, asgA, asgA]
          have hnn : nx + (L.length + (tl (p + 1)).length) = nz + 1 := by rw [show (tl (p + 1)).length = 1 from rfl, ← Nat.add_assoc, HQ.out.2.2.2.2.1]
          have HF := Lib.hid (And.intro hset (And.intro hfinal (And.intro hfinA hnn)))
          clear hset hfinal hfinA hnn
          refine gen_then (fun W => At W gn (nds ((asg (fun x => (bl pars (x : Int)).length) L nx nd).set p { d with post := (nz : Int), low := (nx : Int) })) 62 ∧ At W ga (ints ((asgA L nx al).set nz (p : Int))) 3 ∧ At W bx [.int .i64 (nz : Int)] 3 ∧ Kpt (MutB gn ga bx) w W) ?_ ?_
          · have hM := HQ.out.1
            refine ⟨?_, ?_, ?_, ?_⟩
            · rw [HF.out.1]
              exact ((hM.hgn.drew.put rfl).put rfl).off n1
            · exact ((hM.hga.drew.off n1.symm).off n1.symm).put (ints_set _ _ _).symm
            · exact ((hM.hbx.drew.off n2.symm).off n2.symm).off n3.symm
            · exact ((HQ.out.2.1.drew.set (fun _ => .inl rfl) _).set (fun _ => .inl rfl) _).set (fun _ => .inr (.inl rfl)) _
          clear c0 c1 c2 c3 c5 c6 c7 f1 f2 f3 f4
          rintro W ⟨g1, g2, g3, g4⟩
          have c3 := g3.cell 0 rfl
          have f3 := g3.free 0
          have HG := Lib.hid (And.intro g1 (And.intro g2 (And.intro g3 g4)))
          clear g1 g2 g3 g4
          go_wp2
          go_end0
          obtain ⟨g1, g2, g3, g4⟩ := HG.out
          rw [HF.out.2.1, HF.out.2.2.1, HF.out.2.2.2]
          refine ⟨rfl, ⟨g1.off n2, g2.off n3, g3.put rfl, n3, ?_, ?_⟩, g4.set (fun _ => .inr (.inr rfl)) _⟩
          · rw [List.length_set]; exact HQ.out.1.ln
          · rw [List.length_set]; exact HQ.out.1.la

end Go.Proofs.Ytdohfjidnbhfnaa.Cv

/- cover: number's loops, plainly. -/
namespace Go.Proofs.Ytdohfjidnbhfnaa.Cv
open Go Go.RowKit Go.Proofs.Ytdohfjidnbhfnaa.Mem Go.Proofs.Ytdohfjidnbhfnaa.Tj Go.Proofs.Ytdohfjidnbhfnaa.Scc
set_option linter.unusedVariables false

def mkN (p : Int) : Nd := ⟨p, 0, 0, none⟩
def parStep (u v : Int) (ps : List Int) : List Int := if ps.getD v.toNat 0 < 0 ∨ u < ps.getD v.toNat 0 then ps.set v.toNat u else ps
def parF : List (Int × Int) → List Int → List Int
  | [], ps => ps
  | (u, v) :: r, ps => parF r (parStep u v ps)
theorem parStep_length (u v : Int) (ps : List Int) : (parStep u v ps).length = ps.length := by
  unfold parStep
  split <;> simp
def IsPar (n : Nat) (E : Int → Int → Prop) (ps : List Int) : Prop :=
  ps.length = n ∧ ∀ v : Nat, v < n → (ps.getD v 0 = -1 ∧ ∀ u, ¬ E u (v : Int)) ∨ (E (ps.getD v 0) (v : Int) ∧ ∀ u, E u (v : Int) → ps.getD v 0 ≤ u)
theorem IsPar.unique {n : Nat} {E : Int → Int → Prop} {ps ps' : List Int} (h : IsPar n E ps) (h' : IsPar n E ps') : ps = ps' := by
  refine ext_getD (d := 0) (h.1.trans h'.1.symm) fun v hv => ?_
  rw [h.1] at hv
  rcases h.2 v hv with ⟨a1, a2⟩ | ⟨a1, a2⟩ <;> rcases h'.2 v hv with ⟨b1, b2⟩ | ⟨b1, b2⟩
  · omega
  · exact absurd b1 (a2 _)
  · exact absurd a1 (b2 _)
  · have := a2 _ b1; have := b2 _ a1; omega
theorem IsPar.step {n : Nat} {E : Int → Int → Prop} {ps : List Int} {u v : Int} (h : IsPar n E ps) (h0 : ∀ a b, E a b → 0 ≤ a) (hu : 0 ≤ u) (hv : 0 ≤ v) (hvn : v < n) : IsPar n (fun a b => E a b ∨ (a = u ∧ b = v)) (parStep u v ps) := by
  refine ⟨by rw [parStep_length]; exact h.1, fun x hx => ?_⟩
  have hl := h.1
  by_cases hxv : (x : Int) = v
  · subst hxv
    unfold parStep
    rw [Int.toNat_natCast]
    rcases h.2 x hx with ⟨a1, a2⟩ | ⟨a1, a2⟩
    · rw [if_pos (.inl (by omega)), getD_set _ _ _ _ _ (by omega), if_pos rfl]
      refine .inr ⟨.inr ⟨rfl, rfl⟩, ?_⟩
      rintro w (hw | hw)
      · exact absurd hw (a2 w)
      · omega
    · by_cases hlt : u < ps.getD x 0
      · rw [if_pos (.inr hlt), getD_set _ _ _ _ _ (by omega), if_pos rfl]
        refine .inr ⟨.inr ⟨rfl, rfl⟩, ?_⟩
        rintro w (hw | hw)
        · have := a2 w hw; omega
        · omega
      · have := h0 _ _ a1
        rw [if_neg (by omega)]
        refine .inr ⟨.inl a1, ?_⟩
        rintro w (hw | hw)
        · exact a2 w hw
        · omega
  · have e : (parStep u v ps).getD x 0 = ps.getD x 0 := by
      unfold parStep
      split
      · rw [getD_set _ _ _ _ _ (by omega), if_neg (by omega)]
      · rfl
    rw [e]
    rcases h.2 x hx with ⟨a1, a2⟩ | ⟨a1, a2⟩
    · exact .inl ⟨a1, fun w hw => hw.elim (a2 w) fun h => hxv h.2⟩
    · exact .inr ⟨.inl a1, fun w hw => hw.elim (a2 w) fun h => absurd h.2 hxv⟩
theorem parF_ok {n : Nat} : ∀ (r : List (Int × Int)) (E : Int → Int → Prop) (ps : List Int), IsPar n E ps → (∀ a b, E a b → 0 ≤ a) → (∀ p ∈ r, 0 ≤ p.1 ∧ 0 ≤ p.2 ∧ p.2 < n) → IsPar n (fun a b => E a b ∨ (a, b) ∈ r) (parF r ps)
  | [], E, ps, h, _, _ => by simpa [parF] using h
  | (u, v) :: r, E, ps, h, h0, hr => by
    obtain ⟨a1, a2, a3⟩ := hr (u, v) (by simp)
    have h0' : ∀ a b, (E a b ∨ (a = u ∧ b = v)) → 0 ≤ a := by
      rintro a b (hh | hh)
      · exact h0 a b hh
      · rw [hh.1]; exact a1
    have := parF_ok r _ _ (h.step h0 a1 a2 a3) h0' fun p hp => hr p (by simp [hp])
    rw [parF]
    have e : (fun a b => (E a b ∨ (a = u ∧ b = v)) ∨ (a, b) ∈ r) = fun a b => E a b ∨ (a, b) ∈ (u, v) :: r := by
      funext a b
      rw [List.mem_cons, Prod.mk.injEq, or_assoc]
    rw [e] at this
    exact this
theorem IsPar.start (n : Nat) : IsPar n (fun _ _ => False) (List.replicate n (-1)) := by
  refine ⟨by simp, fun v hv => .inl ⟨?_, fun _ h => h⟩⟩
  rw [List.getD_eq_getElem?_getD, List.getElem?_replicate, if_pos hv]
  rfl
def parsOf (n : Nat) (arcs : List (Int × Int)) : List Int := parF arcs (List.replicate n (-1))
theorem parsOf_ok {n : Nat} {arcs : List (Int × Int)} (h : ∀ p ∈ arcs, 0 ≤ p.1 ∧ 0 ≤ p.2 ∧ p.2 < n) : IsPar n (fun a b => (a, b) ∈ arcs) (parsOf n arcs) := by
  have := parF_ok arcs _ _ (IsPar.start n) (fun _ _ h => h.elim) h
  unfold parsOf
  simpa using this

def kidsU (pars : List Int) (n i : Nat) : List (List Nat) := (List.range (n + 1)).map fun j : Nat => (List.range i).filter fun v => decide (pars.getD v 0 = (j : Int) - 1)
theorem kidsU_length (pars : List Int) (n i : Nat) : (kidsU pars n i).length = n + 1 := by simp [kidsU]
theorem kidsU_zero (pars : List Int) (n : Nat) : kidsU pars n 0 = List.replicate (n + 1) [] := by
  refine List.ext_getElem (by simp [kidsU]) fun j h1 h2 => by simp [kidsU]
theorem kidsU_all {pars : List Int} {n : Nat} (h : pars.length = n) : kidsU pars n n = kidsT pars n := by
  unfold kidsU kidsT kidsOf
  rw [h]
theorem kidsU_at {pars : List Int} {n i j : Nat} (h : j < n + 1) : (kidsU pars n i)[j]? = some ((List.range i).filter fun v => decide (pars.getD v 0 = (j : Int) - 1)) := by
  unfold kidsU
  rw [List.getElem?_map, List.getElem?_range h]
  rfl
theorem kidsU_succ {pars : List Int} {n i q : Nat} {r : List Nat} (hq : q < n + 1) (hp : pars.getD i 0 = (q : Int) - 1) (hr : (kidsU pars n i)[q]? = some r) : kidsU pars n (i + 1) = (kidsU pars n i).set q (r ++ [i]) := by
  refine List.ext_getElem? fun j => ?_
  rcases Nat.lt_or_ge j (n + 1) with hj | hj
  · by_cases hjq : j = q
    · subst hjq
      rw [List.getElem?_set_self (by rw [kidsU_length]; exact hj), kidsU_at hj]
      rw [kidsU_at hj] at hr
      obtain rfl := Option.some.inj hr
      rw [List.range_succ, List.filter_append, List.filter_cons_of_pos (by simpa using hp), List.filter_nil]
    · rw [List.getElem?_set_ne (Ne.symm hjq), kidsU_at hj, kidsU_at hj, List.range_succ, List.filter_append]
      rw [List.filter_cons_of_neg (by rw [decide_eq_true_eq]; omega), List.filter_nil, List.append_nil]
  · rw [List.getElem?_eq_none (by rw [kidsU_length]; exact hj), List.getElem?_eq_none (by rw [List.length_set, kidsU_length]; exact hj)]
theorem kidsU_short {pars : List Int} {n i q : Nat} {r : List Nat} (hr : (kidsU pars n i)[q]? = some r) : r.length ≤ i := by
  have hq : q < n + 1 := by rw [← kidsU_length pars n i]; exact (List.getElem?_eq_some_iff.1 hr).1
  rw [kidsU_at hq] at hr
  obtain rfl := Option.some.inj hr
  have := List.length_filter_le (fun v => decide (pars.getD v 0 = (q : Int) - 1)) (List.range i)
  rw [List.length_range] at this
  exact this

theorem below_kpt {B : Nat} {a b c : World} {p : Nat → Prop} (h : Below B a b) (hk : Kpt p b c) (hp : ∀ k, p k → B ≤ k) (hB : B ≤ b.heap.size) : Below B a c :=
  ⟨hk.os.trans h.os, hk.tape.trans h.tape, hk.output.trans h.output, Nat.le_trans h.size hk.size, fun k hk' => (hk.block k (by omega) fun e => by have := hp k e; omega).trans (h.block k hk')⟩

theorem map_set_mk (ps : List Int) (i : Nat) (p : Int) : (ps.map mkN).set i (mkN p) = (ps.set i p).map mkN := by rw [List.map_set]
theorem rows_env {w : World} {base bo m ga bx : Nat} {vals : List Value} {out : List (List Nat)} (h : Rws w base bo m vals out) (hga : ga < base) (hbx : w.heap.size ≤ bx) : ∀ (u : Nat) (r : List Nat), out[u]? = some r → ∃ A c, vals[u]? = some (.slice A r.length c) ∧ (r = [] ∨ ∃ b cs, A = some ⟨b, 0, none⟩ ∧ At w b cs 3 ∧ b ≠ ga ∧ b ≠ bx ∧ ∀ (j x : Nat), r[j]? = some x → cs[j]? = some (.int .i64 (x : Int))) := by
  intro u r hr
  have hu : u < vals.length := by rw [h.lv, ← h.lo]; exact (List.getElem?_eq_some_iff.1 hr).1
  have hv : vals[u]? = some vals[u] := List.getElem?_eq_getElem hu
  have ho := h.own u _ r hv hr
  rcases ho.2 with ⟨h1, h2⟩ | ⟨g, cap, cur, h1, h2, h3, h4, h5, h6, h7⟩
  · refine ⟨none, 0, ?_, .inl (List.length_eq_zero_iff.1 h2)⟩
    rw [hv, h1, h2]
  · have hat : At w g cur.toList 3 := by unfold At; simpa using h3
    refine ⟨_, cap, by rw [hv, h1], .inr ⟨g, cur.toList, rfl, hat, by omega, by have := hat.lt; omega, fun j x hx => ?_⟩⟩
    have hnx := nats_at r hx
    rw [← h7, List.getElem?_take] at hnx
    split at hnx
    · exact hnx
    · cases hnx

end Go.Proofs.Ytdohfjidnbhfnaa.Cv
