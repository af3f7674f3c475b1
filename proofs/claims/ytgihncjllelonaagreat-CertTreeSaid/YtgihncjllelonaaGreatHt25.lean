/- cert: reached. -/
import Derived.Test.YtgihncjllelonaaGreatHt24
import Derived.Test.YtgihncjllelonaaGreatHt12
import Derived.Test.YtgihncjllelonaaGreatHt5
import Derived.Test.YtgihncjllelonaaGreatHt23
namespace Go.Proofs.YtgihncjllelonaaGreat.Ce
open Go Go.RowKit Go.MapKept Go.Proofs.YtgihncjllelonaaGreat.Mem Go.Proofs.YtgihncjllelonaaGreat.Sl Go.Proofs.YtgihncjllelonaaGreat.Lw Go.Proofs.YtgihncjllelonaaGreat.Om Go.Proofs.YtgihncjllelonaaGreatW.PrintWords Go.Proofs.YtgihncjllelonaaGreatW.PrintLast
attribute [local go_sem ↓] Go.wp_at_zero Go.wp_at_succ
set_option linter.unusedSimpArgs false
set_option linter.unusedVariables false

inductive Cl (N : Int → Int → Prop) (a : Int) : Int → Prop
  | base : Cl N a a
  | step {x y : Int} : Cl N a x → N x y → Cl N a y
theorem seenF_eq {S T : List Int} (h : ∀ x, x ∈ S ↔ x ∈ T) : seenF S = seenF T := by
  funext x
  unfold seenF
  by_cases e : x ∈ S
  · rw [if_pos e, if_pos ((h x).1 e)]
  · rw [if_neg e, if_neg (fun h2 => e ((h x).2 h2))]
theorem mem_app_swap {D O : List Int} {u x : Int} : x ∈ D ++ (O ++ [u]) ↔ x ∈ (D ++ [u]) ++ O := by simp [or_comm, or_left_comm, or_assoc]
theorem nodup_swap {D O : List Int} {u : Int} (h : (D ++ (O ++ [u])).Nodup) : ((D ++ [u]) ++ O).Nodup := by
  refine (List.Perm.nodup_iff ?_).1 h
  rw [List.append_assoc]
  exact List.Perm.append_left D List.perm_append_comm
theorem own_less {w : World} {B g n cap : Nat} {T : TypeId} {xs : List Value} {x : Value} (h : w.ownsRow B T 1 (.slice (some ⟨g, 0, none⟩) (n + 1) cap) (n + 1) (xs ++ [x])) : w.ownsRow B T 1 (.slice (some ⟨g, 0, none⟩) n cap) n xs := by
  have hl := h.1
  rw [List.length_append, List.length_singleton] at hl
  refine ⟨by omega, ?_⟩
  rcases h.2 with ⟨e, _⟩ | ⟨g', cap', cur, e, e2, e3, e4, e5, e6, e7⟩
  · cases e
  · cases e
    refine .inr ⟨g, cap, cur, rfl, e2, e3, by omega, e5, e6, ?_⟩
    have h2 : (xs ++ [x]).take n = xs := by
      rw [List.take_append_of_le_length (by omega), List.take_of_length_le (by omega)]
    rw [← e7, List.take_take, Nat.min_eq_left (by omega)] at h2
    rw [Nat.mul_one]
    exact h2
theorem own_capS {w : World} {B s n cap g : Nat} {T : TypeId} {xs : List Value} (h : w.ownsRow B T s (.slice (some ⟨g, 0, none⟩) n cap) n xs) : n ≤ cap := by
  rcases h.2 with ⟨h', _⟩ | ⟨g', cap', cur, h', _, _, hn, _⟩
  · cases h'
  · cases h'
    exact hn
theorem own_putQ {w : World} {b : Nat} {f : Int → Option Value} (hm : MQ w b f) {base : Nat} {e : TypeId} {size n : Nat} {v : Value} {xs : List Value} (h : w.ownsRow base e size v n xs) (o : Obj) : (putObj w b o).ownsRow base e size v n xs := by
  have hne := hm.own h
  refine ⟨h.1, ?_⟩
  rcases h.2 with h0 | ⟨g, cap, cur, rfl, hg, hh, r⟩
  · exact .inl h0
  · exact .inr ⟨g, cap, cur, rfl, hg, (putObj_far fun e => hne (by rw [e]; rfl)).trans hh, r⟩
theorem nodup_le : ∀ {l m : List Int}, l.Nodup → (∀ x ∈ l, x ∈ m) → l.length ≤ m.length
  | [], _, _, _ => by simp
  | a :: l, m, hn, hs => by
    rw [List.nodup_cons] at hn
    have h1 := nodup_le (m := m.erase a) hn.2 fun x hx => (List.mem_erase_of_ne (fun e : x = a => hn.1 (e ▸ hx))).2 (hs x (by simp [hx]))
    have h2 := List.length_erase_of_mem (hs a (by simp))
    have h3 := List.length_pos_of_mem (hs a (by simp))
    rw [List.length_cons]
    omega
theorem ints_app (a b : List Int) : ints (a ++ b) = ints a ++ ints b := by simp [ints]
structure Ri (w W : World) (N : Int → Int → Prop) (s : Int) (E D O : List Int) (v : Value) : Prop where
  b : Below w.heap.size w W
  m : MQ W w.heap.size (seenF (D ++ O))
  r : W.ownsRow w.heap.size 3 1 v O.length (ints O)
  nd : (D ++ O).Nodup
  al : ∀ x ∈ D ++ O, Cl N s x
  cl : ∀ x ∈ E, ∀ y, N x y → y ∈ D ++ O
  iv : s ∈ D ++ O
section
variable {w W W' : World} {N : Int → Int → Prop} {s u : Int} {E D O : List Int} {v : Value}
theorem Ri.pop {g n cap : Nat} (h : Ri w W N s D D (O ++ [u]) (.slice (some ⟨g, 0, none⟩) (n + 1) cap)) (hn : O.length = n) : Ri w W N s D (D ++ [u]) O (.slice (some ⟨g, 0, none⟩) n cap) := by
  refine ⟨h.b, ?_, ?_, nodup_swap h.nd, fun x hx => h.al x (mem_app_swap.2 hx), fun x hx y hy => mem_app_swap.1 (h.cl x hx y hy), mem_app_swap.1 h.iv⟩
  · rw [seenF_eq (fun x => mem_app_swap.symm)]
    exact h.m
  · have h1 := h.r
    rw [List.length_append, List.length_singleton, ints_app, hn] at h1
    rw [hn]
    exact own_less h1
theorem Ri.close (h : Ri w W N s D (D ++ [u]) O v) (hu : ∀ y, N u y → y ∈ (D ++ [u]) ++ O) : Ri w W N s (D ++ [u]) (D ++ [u]) O v :=
  ⟨h.b, h.m, h.r, h.nd, h.al, fun x hx y hy => by
    rcases List.mem_append.1 hx with hx | hx
    · exact h.cl x hx y hy
    · obtain rfl : x = u := by simpa using hx
      exact hu y hy, h.iv⟩
theorem Ri.push {x : Int} {v' : Value} (h : Ri w W N s E D O v) (hu : u ∈ D ++ O) (hx : x ∉ D ++ O) (hN : N u x) (hb : Below w.heap.size w W') (hm : MQ W' w.heap.size (seenF ((D ++ O) ++ [x]))) (ho : W'.ownsRow w.heap.size 3 1 v' (O.length + 1) (ints O ++ [.int .i64 x])) : Ri w W' N s E D (O ++ [x]) v' := by
  refine ⟨hb, by rw [← List.append_assoc]; exact hm, by rw [List.length_append, ints_app]; exact ho, ?_, fun y hy => ?_, fun y hy z hz => ?_, ?_⟩
  · rw [← List.append_assoc, List.nodup_append]
    exact ⟨h.nd, by simp, fun a ha b hb e => by simp at hb; subst hb; subst e; exact hx ha⟩
  · rw [← List.append_assoc, List.mem_append] at hy
    rcases hy with hy | hy
    · exact h.al y hy
    · obtain rfl : y = x := by simpa using hy
      exact .step (h.al u hu) hN
  · have := h.cl y hy z hz
    rw [← List.append_assoc]
    exact List.mem_append_left _ this
  · rw [← List.append_assoc]
    exact List.mem_append_left _ h.iv
theorem Ri.fin (h : Ri w W N s D D [] v) (x : Int) : x ∈ D ↔ Cl N s x := by
  constructor
  · exact fun hx => h.al x (by simp [hx])
  · intro hx
    induction hx with
    | base => simpa using h.iv
    | step _ hn ih => simpa using h.cl _ ih _ hn
end
set_option maxHeartbeats 16000000 in
set_option maxRecDepth 100000 in
theorem reached_calls (w : World) (mo base : Nat) (F : Int → Rw) (s : Int) (V : List Int) (hom : OM w base mo F) (hs : s ∈ V) (hV : ∀ u ∈ V, ∀ y ∈ rL (F u), y ∈ V) (hVl : V.length ≤ 1000) (hFl : ∀ u, (rL (F u)).length ≤ 1000) :
    Calls Tryz.prog 76 #[.map (some mo), .int .i64 s] w fun e w' => ∃ S, e = .returned (.map (some w.heap.size)) ∧ MQ w' w.heap.size (seenF S) ∧ (∀ x, x ∈ S ↔ Cl (fun x y => y ∈ rL (F x)) s x) ∧ Below w.heap.size w w' := by
  obtain ⟨i1, hi1, hz1, hs1, hy1⟩ := info_parts Lw.info_int
  have hmk := run_mkI w
  obtain ⟨o, hup, hm1⟩ := (MQ.new w).update (P := Tryz.prog) (T := 159) Tryz.underlying159 Tryz.underlying3 s (.int .i64 1)
  have hdom : ∀ x, Cl (fun x y => y ∈ rL (F x)) s x → x ∈ V := fun x hx => by
    induction hx with
    | base => exact hs
    | step _ hn ih => exact hV _ ih _ hn
  have hb1 : Below w.heap.size w (putObj (w.alloc (.map #[] 0)) w.heap.size o) := below_putObj ((Below.refl _ _).alloc (Nat.le_refl _) _) (Nat.le_refl _) o
  have hb2 : Below w.heap.size w ((putObj (w.alloc (.map #[] 0)) w.heap.size o).alloc (.cells #[.int .i64 s] 3)) := hb1.alloc hb1.size _
  have hsz : (putObj (w.alloc (.map #[] 0)) w.heap.size o).heap.size = w.heap.size + 1 := by rw [putObj_size]; simp
  have hm2 : MQ ((putObj (w.alloc (.map #[] 0)) w.heap.size o).alloc (.cells #[.int .i64 s] 3)) w.heap.size (seenF [s]) := by
    have h1 := hm1.al (o := .cells #[.int .i64 s] 3)
    rw [show updV (fun _ => none) s (some (.int .i64 1)) = seenF [s] by
      have := seenF_add [] s
      rw [List.nil_append] at this
      rw [← this]
      rfl] at h1
    exact h1
  have hst : Ri w ((putObj (w.alloc (.map #[] 0)) w.heap.size o).alloc (.cells #[.int .i64 s] 3)) (fun x y => y ∈ rL (F x)) s [] [] [s] (.slice (some ⟨(putObj (w.alloc (.map #[] 0)) w.heap.size o).heap.size, 0, none⟩) 1 1) :=
    ⟨hb2, hm2, World.ownsRow_lit _ #[.int .i64 s] 1 (by rw [putObj_size]; simp) (by decide) rfl, by simp, fun x hx => by simp at hx; subst hx; exact .base, fun x hx => by simp at hx, by simp⟩
  rw [hsz] at hst
  have HS := Lib.hid hst
  have HX := Lib.hid (And.intro hom (And.intro hdom hFl))
  clear hom hs hV hFl hm1 hb1 hb2 hm2 hst hdom
  go_enter Tryz.func76, Tryz.ntmps76
  go_wp2_with fail
  clear hup hmk
  go_loopg [6] (V.length + 1) (fun kq v6 w' => Hid (∃ Dl O, Dl.length + kq = V.length + 1 ∧ Ri w w' (fun x y => y ∈ rL (F x)) s Dl Dl O v6))
  case atStart => exact Lib.hid ⟨[], [s], by simp, HS.out⟩
  case round =>
    clear HS
    obtain ⟨Dl, O, hdk, hI⟩ := hrel.out
    clear hrel
    have hlen := nodup_le hI.nd (m := V) fun x hx => HX.out.2.1 x (hI.al x hx)
    rw [List.length_append] at hlen
    rcases List.eq_nil_or_concat O with rfl | ⟨O', u, rfl⟩
    · obtain ⟨A10, c10, rfl⟩ := Lw.own_slice hI.r
      have HQ := Lib.hid hI
      clear hI hlen hdk
      go_wp2
      go_ret
      exact ⟨Dl, rfl, by simpa using HQ.out.m, HQ.out.fin, HQ.out.b⟩
    · obtain ⟨k1, rfl⟩ : ∃ k1, gk = k1 + 1 := ⟨gk - 1, by rw [List.length_concat] at hlen; omega⟩
      rw [List.concat_eq_append] at hI hlen
      obtain ⟨n, hn⟩ : ∃ n, O'.length = n := ⟨_, rfl⟩
      rw [List.length_append, List.length_singleton, hn] at hlen
      have hr := hI.r
      rw [List.length_append, List.length_singleton, hn, ints_app] at hr
      obtain ⟨g, c, rfl, _, _⟩ := hr.form (by omega)
      have cu := (hr.cellAt n (by omega)).trans (show (ints O' ++ ints [u])[n]? = some (.int .i64 u) by
        rw [List.getElem?_append_right (by simp [ints, hn]), show n - (ints O').length = 0 by simp [ints, hn]]; rfl)
      have hcap := own_capS hr
      have hpop := hI.pop hn
      obtain ⟨m, hm⟩ : ∃ m, n + 1 = m := ⟨_, rfl⟩
      have m1 : (m : Int) - 1 = (n : Int) := by omega
      have m2 : (m : Int) > 0 := by omega
      have m2' : 0 < m := by omega
      have n0 : (0 : Int) ≤ (n : Int) := by omega
      have n1 : (n : Int) < (m : Int) := by omega
      have n2 : (n : Int) ≤ (c : Int) := by omega
      have m3 : (m : Int) ≤ 1000 := by omega
      rw [hm]
      have hom := HX.out.1.below hpop.b
      have lk := hom.look u
      have hrow := hom.r u
      obtain ⟨rl, hrl⟩ : ∃ r, rL (F u) = r := ⟨_, rfl⟩
      obtain ⟨nl, hnl⟩ : ∃ r, rl.length = r := ⟨_, rfl⟩
      rw [hrl, hnl] at hrow
      obtain ⟨Al, cl, hvl⟩ := Lw.own_slice hrow
      rw [hvl] at lk
      have hrw := HX.out.1.r u
      rw [hrl, hnl, hvl] at hrw
      have hll := HX.out.2.2 u
      rw [hrl, hnl] at hll
      have HRD := Lib.hid (RdI.of_own hrw).1
      have HRL := Lib.hid (And.intro hrl hnl)
      have HP := Lib.hid (And.intro hpop (And.intro hdk hlen))
      clear hI hr hpop hcap hdk hlen hm hom hrow hrl hnl hvl hrw
      go_wp2_with fail
      clear cu lk
      go_loopg [6, 33] (nl + 1) (fun kq v6 v33 w' => ∃ i : Nat, v33 = .int .i64 (i : Int) ∧ Hid (i + kq = nl + 1 ∧ i ≤ nl ∧ ∃ O2, Ri w w' (fun x y => y ∈ rL (F x)) s Dl (Dl ++ [u]) O2 v6 ∧ ∀ y ∈ rl.take i, y ∈ (Dl ++ [u]) ++ O2))
      case atStart => exact ⟨0, rfl, Lib.hid ⟨by omega, by omega, O', HP.out.1, fun y hy => by simp at hy⟩⟩
      case round =>
        obtain ⟨i, rfl, hI⟩ := hrel
        obtain ⟨hik, hin', O2, hI5, hseen⟩ := hI.out
        clear hI
        by_cases hi : i < nl
        · obtain ⟨k2, rfl⟩ : ∃ k2, gk = k2 + 1 := ⟨gk - 1, by omega⟩
          obtain ⟨x, hx⟩ : ∃ x, rl[i]? = some x := ⟨_, List.getElem?_eq_getElem (by have := HRL.out.2; omega)⟩
          obtain ⟨bl, hbl, cx⟩ := (HRD.out.below hI5.b) i x hx
          subst hbl
          have hsl := look_seen hI5.m x
          have htk : rl.take (i + 1) = rl.take i ++ [x] := by rw [List.take_add_one, hx]; rfl
          have hxl := List.mem_of_getElem? hx
          have i0 : (0 : Int) ≤ (i : Int) := by omega
          have i1' : (i : Int) < (nl : Int) := by omega
          have i2 : (nl : Int) ≤ 1000 := by omega
          by_cases hin : x ∈ (Dl ++ [u]) ++ O2
          · rw [seenF_yes hin] at hsl
            have HN := Lib.hid (And.intro (And.intro hik hi) (And.intro hI5 (show ∀ y ∈ rl.take (i + 1), y ∈ (Dl ++ [u]) ++ O2 from fun y hy => by
              rw [htk, List.mem_append] at hy
              rcases hy with hy | hy
              · exact hseen y hy
              · obtain rfl : y = x := by simpa using hy
                exact hin)))
            clear hI5 hseen htk hx hi hin hxl hik hin'
            go_wp2
            go_roundg k2
            case measure => omega
            case rel => exact ⟨i + 1, by go_num, Lib.hid ⟨by have := HN.out.1; omega, by have := HN.out.1; omega, O2, HN.out.2.1, HN.out.2.2⟩⟩
          · rw [seenF_no hin] at hsl
            obtain ⟨o2, hup, hm2⟩ := seen_put hI5.m x
            have hbp : Below w.heap.size w (putObj wr w.heap.size o2) := below_putObj hI5.b (Nat.le_refl _) o2
            have hop : (putObj wr w.heap.size o2).ownsRow w.heap.size 3 1 u6 O2.length (ints O2) := own_putQ hI5.m hI5.r o2
            have hszp : w.heap.size ≤ (putObj wr w.heap.size o2).heap.size := hbp.size
            have huN : x ∈ rL (F u) := by rw [HRL.out.1]; exact hxl
            have hO2l : O2.length ≤ 1000 := by
              have := nodup_le hI5.nd (m := V) fun x hx => HX.out.2.1 x (hI5.al x hx)
              rw [List.length_append] at this
              omega
            have HO := Lib.hid (And.intro hop (And.intro hbp (And.intro hm2 hszp)))
            have H5 := Lib.hid (And.intro hI5 (And.intro hin (And.intro huN (And.intro htk (And.intro hseen (And.intro hik hi))))))
            clear hI5 hseen htk hx hi hin hm2 hbp hop huN hxl hszp hik hin'
            go_wp2_with ((at_builtin; refine wpList_append_any rfl (.tmp 43) (.tmp 45) 22 rfl w.heap.size 3 i1 (.int .i64 0) 1 8 Tryz.underlying22 hi1 hz1 hs1 hy1 rfl (by omega) _ _ _ rfl (HO.out.1.alloc (.cells #[.int .i64 x] 3)) _ rfl 1 [.int .i64 x] (RdV.lit _ #[.int .i64 x] 3 1 1 1 rfl (by simp [Value.oneCell'])) (by unfold maxLen; omega) (by omega) (by have := HO.out.2.2.2; simp; omega) ?_; intro v6 w6 ho hg hn; have hm6 := (HO.out.2.2.1.al (o := .cells #[.int .i64 x] 3)).grown hg (HO.out.2.2.1.al.own (HO.out.1.alloc (.cells #[.int .i64 x] 3))); have hb6 := (HO.out.2.1.alloc HO.out.2.2.2 (.cells #[.int .i64 x] 3)).grown hg (by have := HO.out.2.2.2; simp; omega) (fun k hk => ((HO.out.1.alloc (.cells #[.int .i64 x] 3)).lt k hk).1); have HO6 := Lib.hid (And.intro ho (And.intro hb6 hm6)); obtain ⟨A6, c6, rfl⟩ := Lw.own_slice ho; clear ho hg hn hm6 hb6))
            go_roundg k2
            case measure => omega
            case rel =>
              obtain ⟨hI5, hin, huN, htk, hseen, hik, hi⟩ := H5.out
              obtain ⟨ho, hb6, hm6⟩ := HO6.out
              refine ⟨i + 1, by go_num, Lib.hid ⟨by omega, by omega, O2 ++ [x], hI5.push (u := u) (by simp) hin huN hb6 hm6 ho, fun y hy => ?_⟩⟩
              rw [htk, List.mem_append] at hy
              rw [← List.append_assoc, List.mem_append]
              rcases hy with hy | hy
              · exact .inl (hseen y hy)
              · exact .inr (by simpa using hy)
        · obtain rfl : i = nl := by omega
          have jn : ¬ ((i : Int) < (i : Int)) := by omega
          rw [List.take_of_length_le (by have := HRL.out.2; omega)] at hseen
          have hclo := hI5.close (fun y hy => hseen y (by rw [← HRL.out.1]; exact hy))
          have HN := Lib.hid (And.intro hclo HP.out.2.1)
          clear hI5 hclo hseen hi hik hin' HP
          go_wp2
          go_roundg k1
          case measure => omega
          case rel => exact Lib.hid ⟨Dl ++ [u], O2, by rw [List.length_append, List.length_singleton]; have := HN.out.2; omega, HN.out.1⟩
end Go.Proofs.YtgihncjllelonaaGreat.Ce

/- Plain laws on places, and a ring through all vertices: one component. -/
namespace Go.Proofs.YtgihncjllelonaaGreat.Tj
open Go.Proofs.YtgihncjllelonaaGreat.Sl Go.Proofs.YtgihncjllelonaaGreat.Lw
set_option linter.unusedVariables false

theorem place_at : ∀ (sl : List Int) (x : Nat), sl.Pairwise (· < ·) → ∀ h : x < sl.length, place sl sl[x] = x
  | [], x, _, h => by simp at h
  | a :: r, 0, hs, h => by
    have h1 := (List.pairwise_cons.1 hs).1
    unfold place
    rw [List.getElem_cons_zero, List.countP_cons_of_neg (by simp), List.countP_eq_zero]
    intro b hb
    have := h1 b hb
    simp
    omega
  | a :: r, x + 1, hs, h => by
    have h1 := List.pairwise_cons.1 hs
    have hx : x < r.length := by simpa using h
    have := place_at r x h1.2 hx
    unfold place at *
    rw [List.getElem_cons_succ, List.countP_cons_of_pos (by simpa using h1.1 _ (List.getElem_mem hx)), this]

theorem lt_of_nodup {sl : List Int} (hs : sl.Pairwise (· ≤ ·)) (hd : sl.Nodup) : sl.Pairwise (· < ·) := by
  rw [List.nodup_iff_pairwise_ne] at hd
  exact (hs.and hd).imp fun h => by omega

theorem mem_place {sl : List Int} (hs : sl.Pairwise (· < ·)) {x : Int} (h : x ∈ sl) : ∃ i, ∃ hi : i < sl.length, sl[i] = x ∧ place sl x = i := by
  obtain ⟨i, hi, he⟩ := List.getElem_of_mem h
  exact ⟨i, hi, he, he ▸ place_at sl i hs hi⟩
theorem place_lt {sl : List Int} (hs : sl.Pairwise (· < ·)) {x : Int} (h : x ∈ sl) : place sl x < sl.length := by
  obtain ⟨i, hi, _, e⟩ := mem_place hs h
  omega

end Go.Proofs.YtgihncjllelonaaGreat.Tj

/- The references' Place, walked. -/
namespace Go.Proofs.YtgihncjllelonaaGreat.Lw
open Go Go.RowKit Go.Proofs.YtgihncjllelonaaGreat.Mem Go.Proofs.YtgihncjllelonaaGreat.Sl Go.Proofs.YtgihncjllelonaaGreat.Scc Go.Proofs.YtgihncjllelonaaGreat.Tj Go.Proofs.YtgihncjllelonaaGreatW.PrintWords Go.Proofs.YtgihncjllelonaaGreatW.PrintLast
attribute [local go_sem ↓] Go.wp_at_zero Go.wp_at_succ
set_option linter.unusedSimpArgs false
set_option linter.unusedVariables false

def plI (sl : List Int) (v : Int) : Int := if sl.contains v = true then (place sl v : Int) else -1

theorem plI_at {sl : List Int} (hs : sl.Pairwise (· < ·)) {v : Int} {lo : Nat} (h : sl[lo]? = some v) : plI sl v = (lo : Int) := by
  obtain ⟨hl, he⟩ := List.getElem?_eq_some_iff.1 h
  unfold plI
  rw [if_pos (by simpa using List.mem_of_getElem? h), ← he, place_at sl lo hs hl]
theorem plI_none {sl : List Int} {v : Int} {lo : Nat} (h1 : ∀ (i : Nat) (x : Int), i < lo → sl[i]? = some x → x < v) (h2 : ∀ (i : Nat) (x : Int), lo ≤ i → sl[i]? = some x → v ≤ x) (hs : sl.Pairwise (· < ·)) (h3 : sl[lo]? ≠ some v) : plI sl v = -1 := by
  unfold plI
  rw [if_neg]
  intro hc
  have hm : v ∈ sl := by simpa using hc
  obtain ⟨j, hj, he⟩ := List.getElem_of_mem hm
  have hjs : sl[j]? = some v := by rw [List.getElem?_eq_getElem hj, he]
  rcases Nat.lt_trichotomy j lo with h | h | h
  · have := h1 j v h hjs; omega
  · subst h; exact h3 hjs
  · have hlo : lo < sl.length := by omega
    have h4 := h2 lo _ (Nat.le_refl _) (List.getElem?_eq_getElem hlo)
    have h5 := List.pairwise_iff_getElem.1 hs lo j hlo hj h
    omega

def gV (A : Option Addr) (n c : Nat) (E : Value) (gw : Int := 0) : Value := .agg #[.slice A n c, E, .int .i64 0, .int .i64 gw]


set_option maxHeartbeats 8000000 in
set_option maxRecDepth 100000 in
theorem place_calls {gw : Int} (w : World) (A AE : Option Addr) (c m ce : Nat) (sl : List Int) (v : Int) (hv : RdI w A sl) (hs : sl.Pairwise (· < ·)) (hl : sl.length ≤ 1000000) :
    Calls Tryz.prog 80 #[gV A sl.length c (.slice AE m ce) gw, .int .i64 v] w fun e w' => e = .returned (.int .i64 (plI sl v)) ∧ Below w.heap.size w w' := by
  obtain ⟨n, hn⟩ : ∃ n, sl.length = n := ⟨_, rfl⟩
  rw [hn] at hl ⊢
  have HV := Lib.hid hv
  have HS := Lib.hid hs
  have HN := Lib.hid hn
  clear hv hs hn
  unfold gV
  go_enter Tryz.func80, Tryz.ntmps80
  go_upto_region 1 with (fail)
  refine gen_world (fun W => At W w.heap.size [.slice A n c, .slice AE m ce, .int .i64 0, .int .i64 gw] 34 ∧ Below w.heap.size w W) ?_ ?_
  · exact ⟨At.made rfl rfl, (Below.refl _ _).alloc (Nat.le_refl _) _⟩
  obtain ⟨gb, hgb⟩ : ∃ gb, w.heap.size = gb := ⟨_, rfl⟩
  rw [hgb]
  rintro W ⟨hat, hb⟩
  have cg := hat.cell 0 rfl
  have HAT := Lib.hid hat
  have HB := Lib.hid (hgb ▸ hb : Below w.heap.size w W)
  clear hat hb hgb
  refine start_ (n := 5) (S := fun w' => w'.cell? ⟨gb, 0, none⟩ = some (.slice A n c)) (ds := []) (bA 5 0) (by kernel_rfl) rfl rfl (cg) (fun hHeld => ?_)
  refine pk_ 0 8 (bA 5 1) ?_
  refine pk_ 3 5 (bA 5 9) ?_
  refine tk_ 1 9 (bA 5 11) hHeld (hv := by intro w' s0; go_simp; with_reducible rfl) (h := ?_)
  refine pk_ 2 10 (bA 5 15) ?_
  refine pk_ 4 6 (bA 5 31) ?_
  refine done_ (by kernel_rfl) ?_
  clear hHeld; clear cg
  refine gen_then (fun W => At W gb [.slice A n c, .slice AE m ce, .int .i64 0, .int .i64 gw] 34 ∧ Below w.heap.size w W) ?_ ?_
  · exact ⟨HAT.out.drew, HB.out.drew⟩
  clear HAT HB
  rintro W0 ⟨hat, hb⟩
  have cg := hat.cell 0 rfl
  have HB := Lib.hid hb
  clear hat hb
  go_wp2
  go_loopg [5, 6] n (fun kq v5 v6 w' => ∃ lo hi : Nat, v5 = .int .i64 (lo : Int) ∧ v6 = .int .i64 (hi : Int) ∧ Hid (lo + kq = hi ∧ hi ≤ n ∧ w' = W0 ∧ (∀ (i : Nat) (x : Int), i < lo → sl[i]? = some x → x < v) ∧ ∀ (i : Nat) (x : Int), hi ≤ i → sl[i]? = some x → v ≤ x))
  case atStart => exact ⟨0, n, rfl, rfl, Lib.hid ⟨by omega, Nat.le_refl _, rfl, fun i x h => by omega, fun i x h hx => by have := (List.getElem?_eq_some_iff.1 hx).1; have := HN.out; omega⟩⟩
  case round =>
    obtain ⟨lo, hi, rfl, rfl, hI⟩ := hrel
    obtain ⟨hlh, hhn, hw, h1, h2⟩ := hI.out
    subst hw
    clear hI
    cases gk with
    | zero =>
      obtain rfl : hi = lo := by omega
      by_cases hln : hi < n
      · obtain ⟨x, hx⟩ : ∃ x, sl[hi]? = some x := ⟨_, List.getElem?_eq_getElem (by have := HN.out; omega)⟩
        obtain ⟨b, rfl, cx⟩ := (HV.out.below HB.out) hi x hx
        have j0 : (0 : Int) ≤ (hi : Int) := by omega
        have j1 : (hi : Int) < (n : Int) := by omega
        have j2 : (n : Int) ≤ 1000000 := by omega
        by_cases hxv : x = v
        · subst hxv
          have hp := plI_at HS.out hx
          have HP := Lib.hid hp
          clear hp hx h1 h2 hlh hln
          go_wp2
          go_ret
          exact ⟨by rw [HP.out]; rfl, HB.out⟩
        · have hp := plI_none h1 h2 HS.out (by rw [hx]; simpa using hxv)
          have HP := Lib.hid hp
          have e1 : (x == v) = false := beq_eq_false_iff_ne.2 hxv
          clear hp hx h1 h2 hlh hln hxv
          go_wp2
          go_ret
          exact ⟨by rw [HP.out]; rfl, HB.out⟩
      · have hp := plI_none h1 h2 HS.out (by rw [List.getElem?_eq_none (by have := HN.out; omega)]; simp)
        have HP := Lib.hid hp
        obtain rfl : hi = n := by omega
        clear hp h1 h2 hlh hln
        go_wp2
        go_ret
        exact ⟨by rw [HP.out]; rfl, HB.out⟩
    | succ k =>
      obtain ⟨mid, hmid⟩ : ∃ mid, (lo + hi) / 2 = mid := ⟨_, rfl⟩
      have hm1 : lo ≤ mid := by omega
      have hm2 : mid < hi := by omega
      obtain ⟨x, hx⟩ : ∃ x, sl[mid]? = some x := ⟨_, List.getElem?_eq_getElem (by have := HN.out; omega)⟩
      obtain ⟨b, rfl, cx⟩ := (HV.out.below HB.out) mid x hx
      have hmono : ∀ (i j : Nat) (p q : Int), i ≤ j → sl[i]? = some p → sl[j]? = some q → p ≤ q := by
        intro i j p q hij hp hq
        obtain ⟨a1, a2⟩ := List.getElem?_eq_some_iff.1 hp
        obtain ⟨b1, b2⟩ := List.getElem?_eq_some_iff.1 hq
        rcases Nat.eq_or_lt_of_le hij with rfl | h
        · rw [hp] at hq; cases hq; exact Int.le_refl _
        · have := List.pairwise_iff_getElem.1 HS.out i j a1 b1 h; omega
      have l0 : (0 : Int) ≤ (lo : Int) := by omega
      have l1 : (lo : Int) < (hi : Int) := by omega
      have j0 : (0 : Int) ≤ (mid : Int) := by omega
      have j1 : (mid : Int) < (n : Int) := by omega
      have j2 : (n : Int) ≤ 1000000 := by omega
      have e2 : ((lo : Int) + (hi : Int)).tdiv 2 = (mid : Int) := by rw [Int.tdiv_eq_ediv_of_nonneg (by omega), ← hmid]; omega
      have e3 : ((lo : Int) + (hi : Int)) / 2 = (mid : Int) := by rw [← hmid]; omega
      have e1 : ∀ y : Int, y = (lo : Int) + (hi : Int) → wrap64 y = y := fun y hy => by subst hy; unfold wrap64; omega
      have HL := Lib.hid (show lo + (k + 1) = hi ∧ hi ≤ n ∧ lo ≤ mid ∧ mid < hi from ⟨hlh, hhn, hm1, hm2⟩)
      by_cases hxv : x < v
      · have H1 := Lib.hid (show ∀ (i : Nat) (p : Int), i < mid + 1 → sl[i]? = some p → p < v from fun i p hi' hp => by have := hmono i mid p x (by omega) hp hx; omega)
        have H2 := Lib.hid h2
        clear h1 h2 hmono hx hmid hm1 hm2 hlh hhn
        go_wp2
        go_roundg (hi - (mid + 1))
        case measure => have := HL.out; omega
        case rel => exact ⟨mid + 1, hi, by go_num, rfl, Lib.hid ⟨by have := HL.out; omega, HL.out.2.1, rfl, H1.out, H2.out⟩⟩
      · have H1 := Lib.hid h1
        have H2 := Lib.hid (show ∀ (i : Nat) (p : Int), mid ≤ i → sl[i]? = some p → v ≤ p from fun i p hi' hp => by have := hmono mid i x p hi' hx hp; omega)
        clear h1 h2 hmono hx hmid hm1 hm2 hlh hhn
        go_wp2
        go_roundg (mid - lo)
        case measure => have := HL.out; omega
        case rel => exact ⟨lo, mid, rfl, by go_num, Lib.hid ⟨by have := HL.out; omega, by have := HL.out; omega, rfl, H1.out, H2.out⟩⟩

end Go.Proofs.YtgihncjllelonaaGreat.Lw

/- The references' Error, walked. -/
namespace Go.Proofs.YtgihncjllelonaaGreat.Lw
open Go Go.RowKit Go.Proofs.YtgihncjllelonaaGreat.Mem Go.Proofs.YtgihncjllelonaaGreat.Sl Go.Proofs.YtgihncjllelonaaGreat.Scc Go.Proofs.YtgihncjllelonaaGreat.Tj Go.Proofs.YtgihncjllelonaaGreatW.PrintWords Go.Proofs.YtgihncjllelonaaGreatW.PrintLast
attribute [local go_sem ↓] Go.wp_at_zero Go.wp_at_succ
set_option linter.unusedSimpArgs false
set_option linter.unusedVariables false

theorem keep_at {w w' : World} {a : Addr} {v : Value} (hb : Below w.heap.size w w') (hc : w.cell? a = some v) : w'.cell? a = some v := (hb.cell (World.block_lt_of_cell? w _ hc)).trans hc

theorem rising_of {sl : List Int} (hs : sl.Pairwise (· ≤ ·)) (h : ∀ (i : Nat) (x y : Int), sl[i]? = some x → sl[i + 1]? = some y → y ≠ x) : sl.Nodup := by
  rw [List.nodup_iff_pairwise_ne, List.pairwise_iff_getElem]
  intro i j hi hj hij he
  have h1 := h i _ _ (List.getElem?_eq_getElem hi) (List.getElem?_eq_getElem (by omega))
  have h2 := List.pairwise_iff_getElem.1 hs i (i + 1) hi (by omega) (by omega)
  rcases Nat.eq_or_lt_of_le (show i + 1 ≤ j by omega) with h3 | h3
  · subst h3; exact h1 he.symm
  · have := List.pairwise_iff_getElem.1 hs (i + 1) j (by omega) hj h3
    omega
theorem twice_of {sl : List Int} {i : Nat} {x : Int} (h1 : sl[i]? = some x) (h2 : sl[i + 1]? = some x) : ¬ sl.Nodup := by
  intro h
  rw [List.nodup_iff_pairwise_ne, List.pairwise_iff_getElem] at h
  obtain ⟨a, b⟩ := List.getElem?_eq_some_iff.1 h1
  obtain ⟨c, d⟩ := List.getElem?_eq_some_iff.1 h2
  exact h i (i + 1) a c (by omega) (b.trans d.symm)

theorem plI_neg {sl : List Int} {v : Int} : plI sl v < 0 ↔ sl.contains v = false := by
  unfold plI
  split
  · rename_i h; rw [h]; simp
  · rename_i h; simp at h; simp [h]

theorem gen_loopw {P : Program} {c : Code} {Q : Exit → Act → World → Prop} {a : Act} {w : World} (I : World → Prop) (h : I w) (k : ∀ W, I W → Code.wp P c Q a W) : Code.wp P c Q a w := k w h

theorem Below.drewL {w w' : World} (h : Below w.drew.heap.size w.drew w') : Below w.heap.size w w' := ⟨h.os, h.tape, h.output, h.size, h.block⟩

end Go.Proofs.YtgihncjllelonaaGreat.Lw

/- The references' Graph, walked. -/
namespace Go.Proofs.YtgihncjllelonaaGreat.Lw
open Go Go.RowKit Go.Proofs.YtgihncjllelonaaGreat.Mem Go.Proofs.YtgihncjllelonaaGreat.Sl Go.Proofs.YtgihncjllelonaaGreat.Scc Go.Proofs.YtgihncjllelonaaGreat.Tj Go.Proofs.YtgihncjllelonaaGreatW.PrintWords Go.Proofs.YtgihncjllelonaaGreatW.PrintLast
attribute [local go_sem ↓] Go.wp_at_zero Go.wp_at_succ
set_option linter.unusedSimpArgs false
set_option linter.unusedVariables false

theorem info_edge : (Tryz.prog.info? 74).map (fun i => (i.zero, i.size, i.bytes)) = some (some (.agg #[.int .i64 0, .int .i64 0, .int .i64 0, .int .u32 0]), 4, 32) := by kernel_rfl

def RdE (w : World) (A : Option Addr) (l : List (Int × Int)) : Prop := ∀ (j : Nat) (u v : Int), l[j]? = some (u, v) → ∃ b, A = some ⟨b, 0, none⟩ ∧ w.cell? ⟨b, j * 4 + 1, none⟩ = some (.int .i64 u) ∧ w.cell? ⟨b, j * 4 + 2, none⟩ = some (.int .i64 v)
theorem RdE.below {w w' : World} {A : Option Addr} {l : List (Int × Int)} (h : RdE w A l) (hb : Below w.heap.size w w') : RdE w' A l := fun j u v hx => by
  obtain ⟨b, h1, h2, h3⟩ := h j u v hx
  exact ⟨b, h1, keep_at hb h2, keep_at hb h3⟩

def EdC (l : List (Int × Int)) (xs : List Value) : Prop := xs.length = l.length * 4 ∧ ∀ (j : Nat) (u v : Int), l[j]? = some (u, v) → xs[j * 4 + 1]? = some (.int .i64 u) ∧ xs[j * 4 + 2]? = some (.int .i64 v)
theorem EdC.nil : EdC [] [] := ⟨rfl, fun j u v h => by simp at h⟩
theorem EdC.snoc {l : List (Int × Int)} {xs : List Value} {u v : Int} {e f : Value} (h : EdC l xs) : EdC (l ++ [(u, v)]) (xs ++ [e, .int .i64 u, .int .i64 v, f]) := by
  refine ⟨by simp [h.1]; omega, fun j a b hx => ?_⟩
  have hl := h.1
  rcases Nat.lt_or_ge j l.length with hj | hj
  · rw [List.getElem?_append_left hj] at hx
    rw [List.getElem?_append_left (by omega), List.getElem?_append_left (by omega)]
    exact h.2 j a b hx
  · have hj2 : j = l.length := by
      have := (List.getElem?_eq_some_iff.1 hx).1
      simp at this
      omega
    subst hj2
    rw [List.getElem?_append_right (Nat.le_refl _), Nat.sub_self] at hx
    cases hx
    rw [List.getElem?_append_right (by omega), List.getElem?_append_right (by omega), show l.length * 4 + 1 - xs.length = 1 by omega, show l.length * 4 + 2 - xs.length = 2 by omega]
    exact ⟨rfl, rfl⟩

structure GS (w : World) (gx gb : Nat) (A : Option Addr) (n cg : Nat) (sl : List Int) (vE : Value) (l : List (Int × Int)) (W : World) : Prop where
  x : At W gx [.slice A n cg, vE, .int .i64 0, .int .i64 0] 34
  b : At W gb [.slice none 0 0, .slice none 0 0, .int .i64 0, .int .i64 0] 34
  ne : gx ≠ gb
  hx : w.heap.size ≤ gx
  hb : w.heap.size ≤ gb
  o : ∃ xs, EdC l xs ∧ Two w 3 1 (.slice A n cg) n (ints sl) 74 4 vE l.length xs W

section
variable {w W W' : World} {gx gb n cg : Nat} {A : Option Addr} {sl : List Int} {vE : Value} {l : List (Int × Int)}
theorem GS.below (h : GS w gx gb A n cg sl vE l W) (hb : Below W.heap.size W W') : GS w gx gb A n cg sl vE l W' := by
  obtain ⟨xs, h1, h2⟩ := h.o
  exact ⟨h.x.below hb h.x.lt, h.b.below hb h.b.lt, h.ne, h.hx, h.hb, xs, h1, h2.below hb⟩
theorem own_beside {base g i s k : Nat} {e T : TypeId} {v u : Value} {xs cs : List Value} (h : W.ownsRow base e s v k xs) (hg : At W g cs T) (hne : T ≠ e) : (W.setCell ⟨g, i, none⟩ u).ownsRow base e s v k xs :=
  h.kept (row := some g) ⟨rfl, rfl, rfl, by simp, fun m _ hm => by
    have : m ≠ g := fun e => hm (by rw [e])
    exact heap_setCell_other W ⟨g, i, none⟩ m u this⟩ (.inr (own_off h hg hne).symm)
end

end Go.Proofs.YtgihncjllelonaaGreat.Lw
