/- Part 19 of the proof. -/
import Derived.Test.YtmfohnchnbgbaaaGreatTcM17
import Derived.Test.YtmfohnchnbgbaaaGreatTcM18
/- Sorting: two sorted parts become one. -/
namespace Go.Proofs.YtmfohnchnbgbaaaGreat
open Go.RowKit
section
variable {α : Type} {val : α → Stp} {w0 : World} {B g n cap : Nat} {lt : α → α → Prop} {pos : α → Nat} {U : α → Prop} {cf : α → α → Int}
-- THE WALK

theorem symS_fin {P A1 A2 C1 C2 S1 S2 R A C : List α} {w' : World} (hcut : ∀ u v, (u ∈ A1 ∨ u ∈ C1) → (v ∈ A2 ∨ v ∈ C2) → lt u v) (p1 : S1.Perm (A1 ++ C1)) (s1 : S1.Pairwise lt) (p2 : S2.Perm (A2 ++ C2)) (s2 : S2.Pairwise lt)
    (hr : SrtS val w0 B g n cap (P ++ (S1 ++ (S2 ++ R))) w') (hac : A1 ++ A2 = A ∧ C1 ++ C2 = C) : SymS val lt w0 B g n cap P (A ++ C) R (.returned (.tuple #[])) w' := by
  refine ⟨rfl, S1 ++ S2, ?_, ?_, by simpa using hr⟩
  · refine (p1.append p2).trans ?_
    rw [← hac.1, ← hac.2, List.append_assoc, List.append_assoc]
    exact List.Perm.append_left A1 (List.perm_append_comm_assoc C1 A2 C2)
  · rw [List.pairwise_append]
    exact ⟨s1, s2, fun u hu v hv => hcut u v (by simpa using p1.mem_iff.1 hu) (by simpa using p2.mem_iff.1 hv)⟩

set_option linter.unusedVariables false in
set_option maxRecDepth 100000 in
set_option maxHeartbeats 16000000 in
theorem symS_any (hc : CmpS val lt pos U cf) : ∀ (N : Nat) (P A C R : List α) (a m b : Nat), A.length + C.length ≤ N → a = P.length → m = a + A.length → b = m + C.length → 1 ≤ A.length → 1 ≤ C.length → A.Pairwise lt → C.Pairwise lt → (∀ x ∈ A, ∀ y ∈ C, pos x < pos y) → (∀ x ∈ A, U x) → (∀ y ∈ C, U y) → n ≤ 1000000 →
    ∀ w, SrtS val w0 B g n cap (P ++ (A ++ (C ++ R))) w → Calls Tryz.prog 175 #[.slice (some ⟨g, 0, none⟩) n cap, .int .i64 a, .int .i64 m, .int .i64 b, .func (.func 63) #[] #[]] w (SymS val lt w0 B g n cap P (A ++ C) R) := by
  intro N
  induction N with
  | zero => intro P A C R a m b h _ _ _ h1; omega
  | succ N ih =>
  intro P A C R a m b hN ha hm hb hA1 hC1 hA hC hAC hUA hUC hn w hs
  by_cases hA2 : A.length = 1
  · obtain ⟨x, rfl⟩ : ∃ x, A = [x] := List.length_eq_one_iff.1 hA2
    exact sym1S_any hc P C R x a m b ha (by simpa using hm) hb hC (fun y hy => hAC x (by simp) y hy) (hUA x (by simp)) hUC hn w (by simpa using hs)
  by_cases hC2 : C.length = 1
  · obtain ⟨y, rfl⟩ : ∃ y, C = [y] := List.length_eq_one_iff.1 hC2
    exact sym2S_any hc P A R y a m b ha hm (by simpa using hb) (by omega) hA (fun x hx => hAC x hx y (by simp)) (hUC y (by simp)) hUA hn w (by simpa using hs)
  have hlen := hs.len
  simp only [List.length_append] at hlen
  have hcap := hs.own.cap_le
  have hmx : cap ≤ 9223372036854775807 := by have := hcap.2; simp [maxLen] at this; exact this
  have hbn : b ≤ n := by omega
  obtain ⟨mid, hmid⟩ : ∃ q, (a + b) / 2 = q := ⟨_, rfl⟩
  obtain ⟨n', hn'⟩ : ∃ q, mid + m = q := ⟨_, rfl⟩
  obtain ⟨p, hp⟩ : ∃ q, n' = q + 1 := ⟨n' - 1, by omega⟩
  have hmidz : ((a : Int) + (b : Int)) / 2 = (mid : Int) := by omega
  have hnz : (mid : Int) + (m : Int) = (n' : Int) := by omega
  have hpz : (n' : Int) - 1 = (p : Int) := by omega
  have hab : a + 4 ≤ b := by omega
  have hm1 : a + 2 ≤ m ∧ m + 2 ≤ b := by omega
  have hmid1 : a < mid ∧ mid < b := by omega
  have hma : (m : Int) - (a : Int) = (A.length : Int) := by omega
  have hbm : (b : Int) - (m : Int) = (C.length : Int) := by omega
  obtain ⟨ma, hma0⟩ : ∃ q, A.length = q := ⟨_, rfl⟩
  obtain ⟨bm, hbm0⟩ : ∃ q, C.length = q := ⟨_, rfl⟩
  rw [hma0] at hma
  rw [hbm0] at hbm
  have hma1 : ((ma : Int) == 1) = false := by simp; omega
  have hbm1 : ((bm : Int) == 1) = false := by simp; omega
  have h63 : (a : Int) + (b : Int) ≤ 2000000 := by omega
  have h64 : (n' : Int) ≤ 2000000 := by omega
  obtain ⟨lo, hi, hlh⟩ : ∃ lo hi : Nat, (mid < m ∧ lo + b = mid + m ∧ hi = mid) ∨ (m ≤ mid ∧ lo = a ∧ hi = m) := by
    rcases Nat.lt_or_ge mid m with h | h
    · exact ⟨mid + m - b, mid, .inl ⟨h, by omega, rfl⟩⟩
    · exact ⟨a, m, .inr ⟨h, rfl, rfl⟩⟩
  have hlo : a ≤ lo ∧ lo ≤ hi ∧ hi ≤ m ∧ hi ≤ mid := by omega
  have HPR := hide (show ∀ c, lo ≤ c → c < hi → m ≤ p - c ∧ p - c < b ∧ c ≤ p from fun c h1 h2 => by omega)
  have HLO2 := hide (show ∀ s e, e + s = n' → (s = lo → lo = a ∨ e = b) ∧ (s = hi → hi = m ∨ e = m) from fun s e he => by omega)
  have HEB := hide (show ∀ s e, lo ≤ s → s ≤ hi → e + s = n' → m ≤ e ∧ e ≤ b from fun s e h1 h2 he => by omega)
  have HH := hide (show a = P.length ∧ m = a + A.length ∧ b = m + C.length ∧ A.length + C.length ≤ N + 1 from ⟨ha, hm, hb, hN⟩)
  have HMID := hide (show mid + m = n' ∧ n' = p + 1 from ⟨hn', hp⟩)
  have HS := hide hs
  have HC := hide hc
  have HA := hide hA
  have HCC := hide hC
  have HAC2 := hide hAC
  have HUA := hide hUA
  have HUC := hide hUC
  have HIH := hide ih
  have hlo0 : (0 : Int) ≤ (lo : Int) := by omega
  have hlol : lo ≤ hi := hlo.2.1
  have hhim : hi ≤ m := hlo.2.2.1
  have hhimid : hi ≤ mid := hlo.2.2.2
  have halo : a ≤ lo := hlo.1
  obtain ⟨ham2, hmb2⟩ := hm1
  obtain ⟨hamid, hmidb⟩ := hmid1
  clear hs hc hA hC hAC hUA hUC ih ha hm hb hN hA1 hC1 hA2 hC2 hlen hmid hn' hp hma0 hbm0 hlo hab
  have HLH := hide hlh
  have hgt : ((mid : Int) < (m : Int) ∧ decide (mid < m) = true ∧ (n' : Int) - (b : Int) = (lo : Int)) ∨ (¬ (mid : Int) < (m : Int) ∧ decide (mid < m) = false ∧ True) := by
    rcases hlh with ⟨h1, h2, h3⟩ | ⟨h1, h2, h3⟩
    · exact .inl ⟨by omega, by simp; omega, by have := HMID.out; omega⟩
    · exact .inr ⟨by omega, by simp; omega, trivial⟩
  clear hlh
  rcases hgt with ⟨hz1, hz2, hz3⟩ | ⟨hz1, hz2, hz3⟩
  · go_enter Tryz.func175, Tryz.ntmps175
    go_wp2_with fail
    go_loopw [20, 21] (fun q1 q2 wr => ∃ s r : Nat, q1 = .int .i64 s ∧ q2 = .int .i64 r ∧ lo ≤ s ∧ s ≤ r ∧ r ≤ hi ∧ Hid (CutAt lt A C a m p lo hi s r) ∧ SrtS val w0 B g n cap (P ++ (A ++ (C ++ R))) wr) (fun q1 q2 _ => (RowKit.intOf q2 - RowKit.intOf q1).toNat)
    case atStart =>
      exact ⟨lo, hi, by first | rfl | (congr 1; have := HLH.out; omega), by first | rfl | (congr 1; have := HLH.out; omega), Nat.le_refl _, hlol, Nat.le_refl _, hide ⟨fun c x y h1 h2 => by omega, fun c x y h1 h2 => by omega⟩, HS.out⟩
    case round =>
      obtain ⟨s, r, rfl, rfl, hs1, hsr, hrh, hcut, hr⟩ := hrel
      have HR := hide hr
      by_cases hlt : s < r
      · obtain ⟨c, hc⟩ : ∃ c, (s + r) / 2 = c := ⟨_, rfl⟩
        have hc1 : s ≤ c := by omega
        have hc2 : c < r := by omega
        have hcz : ((s : Int) + (r : Int)) / 2 = (c : Int) := by omega
        obtain ⟨k1, k2, k3⟩ := HPR.out c (by omega) (by omega)
        obtain ⟨d, hd⟩ : ∃ d, p - c = d := ⟨_, rfl⟩
        have hdz : (p : Int) - (c : Int) = (d : Int) := by omega
        rw [hd] at k1 k2
        obtain ⟨x, hx⟩ := get_of (l := A) (k := c - a) (by have := HH.out; omega)
        obtain ⟨y, hy⟩ := get_of (l := C) (k := d - m) (by have := HH.out; omega)
        have hxA := List.mem_of_getElem? hx
        have hyC := List.mem_of_getElem? hy
        have c0 := hr.at (i := c) (x := x) (by
          obtain ⟨g1, g2, g3, g4⟩ := HH.out
          rw [List.getElem?_append_right (by omega), List.getElem?_append_left (by omega), ← g1]; exact hx)
        have c1 := hr.at (i := d) (x := y) (by
          obtain ⟨g1, g2, g3, g4⟩ := HH.out
          rw [List.getElem?_append_right (by omega), List.getElem?_append_right (by omega), List.getElem?_append_left (by omega), ← hy]; congr 1; omega)
        have hcl := HC.out.cls hr (HUC.out y hyC) (HUA.out x hxA)
        have hls := HC.out.less y x (HUC.out y hyC) (HUA.out x hxA) (HAC2.out x hxA y hyC)
        have hbd := HC.out.bd y x
        have htot := HC.out.ord.total y x (by have := HAC2.out x hxA y hyC; omega)
        obtain ⟨v, hv⟩ : ∃ v, cf y x = v := ⟨_, rfl⟩
        rw [hv] at hcl hls hbd
        have HCL := hide hcl
        have HLS := hide hls
        have HTOT := hide htot
        have HXX := hide hx
        have HYY := hide hy
        have HD := hide hd
        have hs63 : (s : Int) + (r : Int) ≤ 2000000 := by omega
        have hc63 : (0 : Int) ≤ (c : Int) := by omega
        have hcn : (c : Int) < (n : Int) := by omega
        have hd63 : (0 : Int) ≤ (d : Int) := by omega
        have hdn : (d : Int) < (n : Int) := by omega
        have hwd : IntKind.i64.wrap (d : Int) = (d : Int) := IntWalk.i64_in _ (by omega)
        clear hr hcl hls htot hx hy hxA hyC hv hc hd
        rcases (show v = -1 ∨ v = 0 ∨ v = 1 by omega) with rfl | rfl | rfl
        · obtain ⟨c00, c01, c02, c03⟩ := c0
          obtain ⟨c10, c11, c12, c13⟩ := c1
          go_wp2_with fail
          refine wp_region_class (fun W => Below wr.heap.size wr W) (by kernel_rfl) (by kernel_rfl) (Below.refl _ _).drew ?_
          repeat (first
            | go_big_quiet_skip
            | (go_big_quiet_want
               first
                 | (go_big_quiet_op
                    go_big_quiet_on)
                 | (refine quiet_call (v := .int .i64 (-1)) (f := 63) (args := #[.agg #[.int .i64 (val y).f, .int .i64 (val y).b, .int .i64 (val y).k, .int .i64 (val y).m], .agg #[.int .i64 (val x).f, .int .i64 (val x).b, .int .i64 (val x).k, .int .i64 (val x).m]]) ?_ ?_ ?_
                    · intro W hW
                      have c00 := kept hW c00
                      have c01 := kept hW c01
                      have c02 := kept hW c02
                      have c03 := kept hW c03
                      have c10 := kept hW c10
                      have c11 := kept hW c11
                      have c12 := kept hW c12
                      have c13 := kept hW c13
                      clear hW
                      go_simp
                      done
                    · intro W hW
                      exact HCL.out W hW
                    simp only [Act.put, List.setIfInBounds_toArray, List.set_cons_zero, List.set_cons_succ]
                    go_big_quiet_on)
                 | (refine quiet_yield (v := ?_) ?_ ?_
                    rotate_left
                    · intro W hW
                      have c00 := kept hW c00
                      have c01 := kept hW c01
                      have c02 := kept hW c02
                      have c03 := kept hW c03
                      have c10 := kept hW c10
                      have c11 := kept hW c11
                      have c12 := kept hW c12
                      have c13 := kept hW c13
                      clear hW
                      go_simp
                      try with_reducible rfl
                    simp only [Act.put, List.setIfInBounds_toArray, List.set_cons_zero, List.set_cons_succ]
                    go_big_quiet_on)))
          refine wpQuiet_nil ?_
          intro W hW
          have HW := hide hW
          clear hW c00 c01 c02 c03 c10 c11 c12 c13
          go_wp2_with fail
          go_roundw
          case rel =>
            have hyx : lt y x := HLS.out.1 (by omega)
            exact ⟨s, c, rfl, by go_num, hs1, hc1, by omega, hide ⟨hcut.out.lo, fun c' x' y' h1 h2 hx' hy' => by
              rcases Nat.lt_or_ge c c' with h5 | h5
              · have e1 : lt x x' := pw_at HA.out HXX.out hx' (by omega)
                have e2 : lt y' y := pw_at HCC.out hy' HYY.out (by have := HPR.out c' (by omega) h2; have := HD.out; omega)
                exact HC.out.ord.trans _ _ _ e2 (HC.out.ord.trans _ _ _ hyx e1)
              · obtain rfl : c' = c := by omega
                rw [HXX.out] at hx'; cases hx'
                rw [HD.out, HYY.out] at hy'; cases hy'
                exact hyx⟩, HR.out.below HW.out⟩
          case measure => simp [RowKit.intOf]; omega
        · obtain ⟨c00, c01, c02, c03⟩ := c0
          obtain ⟨c10, c11, c12, c13⟩ := c1
          go_wp2_with fail
          refine wp_region_class (fun W => Below wr.heap.size wr W) (by kernel_rfl) (by kernel_rfl) (Below.refl _ _).drew ?_
          repeat (first
            | go_big_quiet_skip
            | (go_big_quiet_want
               first
                 | (go_big_quiet_op
                    go_big_quiet_on)
                 | (refine quiet_call (v := .int .i64 0) (f := 63) (args := #[.agg #[.int .i64 (val y).f, .int .i64 (val y).b, .int .i64 (val y).k, .int .i64 (val y).m], .agg #[.int .i64 (val x).f, .int .i64 (val x).b, .int .i64 (val x).k, .int .i64 (val x).m]]) ?_ ?_ ?_
                    · intro W hW
                      have c00 := kept hW c00
                      have c01 := kept hW c01
                      have c02 := kept hW c02
                      have c03 := kept hW c03
                      have c10 := kept hW c10
                      have c11 := kept hW c11
                      have c12 := kept hW c12
                      have c13 := kept hW c13
                      clear hW
                      go_simp
                      done
                    · intro W hW
                      exact HCL.out W hW
                    simp only [Act.put, List.setIfInBounds_toArray, List.set_cons_zero, List.set_cons_succ]
                    go_big_quiet_on)
                 | (refine quiet_yield (v := ?_) ?_ ?_
                    rotate_left
                    · intro W hW
                      have c00 := kept hW c00
                      have c01 := kept hW c01
                      have c02 := kept hW c02
                      have c03 := kept hW c03
                      have c10 := kept hW c10
                      have c11 := kept hW c11
                      have c12 := kept hW c12
                      have c13 := kept hW c13
                      clear hW
                      go_simp
                      try with_reducible rfl
                    simp only [Act.put, List.setIfInBounds_toArray, List.set_cons_zero, List.set_cons_succ]
                    go_big_quiet_on)))
          refine wpQuiet_nil ?_
          intro W hW
          have HW := hide hW
          clear hW c00 c01 c02 c03 c10 c11 c12 c13
          go_wp2_with fail
          go_roundw
          case rel =>
            have hxy : lt x y := HTOT.out (fun h => absurd (HLS.out.2 h) (by omega))
            exact ⟨c + 1, r, by go_num, rfl, by omega, by omega, hrh, hide ⟨fun c' x' y' h1 h2 hx' hy' => by
              rcases Nat.lt_or_ge c' c with h5 | h5
              · have e1 : lt x' x := pw_at HA.out hx' HXX.out (by omega)
                have e2 : lt y y' := pw_at HCC.out HYY.out hy' (by have := HPR.out c' (by omega) (by omega); have := HD.out; omega)
                exact HC.out.ord.trans _ _ _ (HC.out.ord.trans _ _ _ e1 hxy) e2
              · obtain rfl : c' = c := by omega
                rw [HXX.out] at hx'; cases hx'
                rw [HD.out, HYY.out] at hy'; cases hy'
                exact hxy, hcut.out.hi⟩, HR.out.below HW.out⟩
          case measure => simp [RowKit.intOf]; omega
        · obtain ⟨c00, c01, c02, c03⟩ := c0
          obtain ⟨c10, c11, c12, c13⟩ := c1
          go_wp2_with fail
          refine wp_region_class (fun W => Below wr.heap.size wr W) (by kernel_rfl) (by kernel_rfl) (Below.refl _ _).drew ?_
          repeat (first
            | go_big_quiet_skip
            | (go_big_quiet_want
               first
                 | (go_big_quiet_op
                    go_big_quiet_on)
                 | (refine quiet_call (v := .int .i64 1) (f := 63) (args := #[.agg #[.int .i64 (val y).f, .int .i64 (val y).b, .int .i64 (val y).k, .int .i64 (val y).m], .agg #[.int .i64 (val x).f, .int .i64 (val x).b, .int .i64 (val x).k, .int .i64 (val x).m]]) ?_ ?_ ?_
                    · intro W hW
                      have c00 := kept hW c00
                      have c01 := kept hW c01
                      have c02 := kept hW c02
                      have c03 := kept hW c03
                      have c10 := kept hW c10
                      have c11 := kept hW c11
                      have c12 := kept hW c12
                      have c13 := kept hW c13
                      clear hW
                      go_simp
                      done
                    · intro W hW
                      exact HCL.out W hW
                    simp only [Act.put, List.setIfInBounds_toArray, List.set_cons_zero, List.set_cons_succ]
                    go_big_quiet_on)
                 | (refine quiet_yield (v := ?_) ?_ ?_
                    rotate_left
                    · intro W hW
                      have c00 := kept hW c00
                      have c01 := kept hW c01
                      have c02 := kept hW c02
                      have c03 := kept hW c03
                      have c10 := kept hW c10
                      have c11 := kept hW c11
                      have c12 := kept hW c12
                      have c13 := kept hW c13
                      clear hW
                      go_simp
                      try with_reducible rfl
                    simp only [Act.put, List.setIfInBounds_toArray, List.set_cons_zero, List.set_cons_succ]
                    go_big_quiet_on)))
          refine wpQuiet_nil ?_
          intro W hW
          have HW := hide hW
          clear hW c00 c01 c02 c03 c10 c11 c12 c13
          go_wp2_with fail
          go_roundw
          case rel =>
            have hxy : lt x y := HTOT.out (fun h => absurd (HLS.out.2 h) (by omega))
            exact ⟨c + 1, r, by go_num, rfl, by omega, by omega, hrh, hide ⟨fun c' x' y' h1 h2 hx' hy' => by
              rcases Nat.lt_or_ge c' c with h5 | h5
              · have e1 : lt x' x := pw_at HA.out hx' HXX.out (by omega)
                have e2 : lt y y' := pw_at HCC.out HYY.out hy' (by have := HPR.out c' (by omega) (by omega); have := HD.out; omega)
                exact HC.out.ord.trans _ _ _ (HC.out.ord.trans _ _ _ e1 hxy) e2
              · obtain rfl : c' = c := by omega
                rw [HXX.out] at hx'; cases hx'
                rw [HD.out, HYY.out] at hy'; cases hy'
                exact hxy, hcut.out.hi⟩, HR.out.below HW.out⟩
          case measure => simp [RowKit.intOf]; omega
      · obtain rfl : s = r := by omega
        have hss : ¬ (s : Int) < (s : Int) := by omega
        obtain ⟨e, he⟩ : ∃ e, n' - s = e := ⟨_, rfl⟩
        have hes : e + s = n' := by have := HMID.out; omega
        obtain ⟨hme, heb⟩ := HEB.out s e hs1 hrh hes
        have hez : (n' : Int) - (s : Int) = (e : Int) := by omega
        obtain ⟨A1, hA1⟩ : ∃ L, A.take (s - a) = L := ⟨_, rfl⟩
        obtain ⟨A2, hA2⟩ : ∃ L, A.drop (s - a) = L := ⟨_, rfl⟩
        obtain ⟨C1, hC1⟩ : ∃ L, C.take (e - m) = L := ⟨_, rfl⟩
        obtain ⟨C2, hC2⟩ : ∃ L, C.drop (e - m) = L := ⟨_, rfl⟩
        have hA12 : A1 ++ A2 = A := by rw [← hA1, ← hA2]; exact List.take_append_drop _ _
        have hC12 : C1 ++ C2 = C := by rw [← hC1, ← hC2]; exact List.take_append_drop _ _
        have hcl := cut_less HC.out.ord.trans HA.out HCC.out HH.out.2.1 HH.out.2.2.1 hcut.out halo hs1 hrh hhim HPR.out e (by have := HMID.out; omega) (HLO2.out s e hes).1 (HLO2.out s e hes).2 hme heb
        rw [hA1, hA2, hC1, hC2] at hcl
        have HCUT := hide hcl
        have hln : A1.length = s - a ∧ A2.length = m - s ∧ C1.length = e - m ∧ C2.length = b - e ∧ e - m = mid - s ∧ s ≤ m ∧ s ≤ mid ∧ a ≤ s := by
          rw [← hA1, ← hA2, ← hC1, ← hC2]
          have := HH.out; have := HMID.out
          simp only [List.length_take, List.length_drop]
          omega
        have HLN := hide (show A1.length = s - a ∧ A2.length = m - s ∧ C1.length = e - m ∧ C2.length = b - e ∧ e - m = mid - s from ⟨hln.1, hln.2.1, hln.2.2.1, hln.2.2.2.1, hln.2.2.2.2.1⟩)
        obtain ⟨_, _, _, _, _, hsm0, hsmid0, has0⟩ := hln
        have HAC := hide (show A1 ++ A2 = A ∧ C1 ++ C2 = C from ⟨hA12, hC12⟩)
        have hpA := HA.out
        have hpC := HCC.out
        rw [← hA12, List.pairwise_append] at hpA
        rw [← hC12, List.pairwise_append] at hpC
        have HAP1 := hide hpA.1
        have HAP2 := hide hpA.2.1
        have HCP1 := hide hpC.1
        have HCP2 := hide hpC.2.1
        have hms : s = a ∨ a < s := by omega
        have HROT := hide (fun (h1 : 1 ≤ A2.length) (h2 : 1 ≤ C1.length) => rotS_any (val := val) (w0 := w0) (B := B) (g := g) (n := n) (cap := cap) (P ++ A1) A2 C1 (C2 ++ R) s m e (by have := HLN.out; have := HH.out; simp; omega) (by have := HLN.out; omega) (by have := HLN.out; omega) h1 h2 (.func (.func 63) #[] #[]) (hn := hn))
        have HI1 := hide (fun (h1 : 1 ≤ A1.length) (h2 : 1 ≤ C1.length) => HIH.out P A1 C1 (A2 ++ (C2 ++ R)) a s mid (by have := HLN.out; have := HH.out; omega) HH.out.1 (by have := HLN.out; omega) (by have := HLN.out; omega) h1 h2 HAP1.out HCP1.out (fun x hx y hy => HAC2.out x (by rw [← HAC.out.1]; exact List.mem_append_left _ hx) y (by rw [← HAC.out.2]; exact List.mem_append_left _ hy))
          (fun x hx => HUA.out x (by rw [← HAC.out.1]; exact List.mem_append_left _ hx)) (fun y hy => HUC.out y (by rw [← HAC.out.2]; exact List.mem_append_left _ hy)) hn)
        have HI2 := hide (fun (h1 : 1 ≤ A2.length) (h2 : 1 ≤ C2.length) (S1 : List α) W hW (hl : S1.length = A1.length + C1.length) => HIH.out (P ++ S1) A2 C2 R mid e b (by have := HLN.out; have := HH.out; omega) (by have := HLN.out; have := HH.out; simp; omega) (by have := HLN.out; omega) (by have := HLN.out; omega) h1 h2 HAP2.out HCP2.out (fun x hx y hy => HAC2.out x (by rw [← HAC.out.1]; exact List.mem_append_right _ hx) y (by rw [← HAC.out.2]; exact List.mem_append_right _ hy))
          (fun x hx => HUA.out x (by rw [← HAC.out.1]; exact List.mem_append_right _ hx)) (fun y hy => HUC.out y (by rw [← HAC.out.2]; exact List.mem_append_right _ hy)) hn W hW)
        have HR0 := hide (show SrtS val w0 B g n cap ((P ++ A1) ++ (A2 ++ (C1 ++ (C2 ++ R)))) wr by
          have h := hr
          rw [← hA12, ← hC12] at h
          simpa using h)
        have hemid : mid < e ↔ s < m := by have := HMID.out; omega
        have hC1n : m < e ↔ s < mid := by have := HMID.out; omega
        clear hr hcl hpA hpC hA1 hA2 hC1 hC2 hA12 hC12 hlt hcut he hes HPR HLO2 HEB HMID HS HC HA HCC HAC2 HUA HUC HIH HLH HH HR
        rcases (show ( s < m ∧  s < mid) ∨ ( s < m ∧ ¬ s < mid) by omega) with ⟨hal, hbe⟩ | ⟨hal, hbe⟩
        · have hz1a : (s : Int) < (m : Int) := by omega
          have hd1a : decide (s < m) = true := by simp; omega
          have hz1b : (m : Int) < (e : Int) := by omega
          have hd1b : decide (m < e) = true := by simp; omega
          go_wp2_with fail
          refine (HROT.out (by omega) (by omega) _ HR0.out).mono ?_
          rintro e1 w1 ⟨rfl, hr1⟩
          have HR1 := hide hr1
          clear hr1
          by_cases hga : a < s
          · have hz2a : (a : Int) < (s : Int) := by omega
            have hd2a : decide (a < s) = true := by simp; omega
            have hz2b : (s : Int) < (mid : Int) := by omega
            have hd2b : decide (s < mid) = true := by simp; omega
            go_wp2_with fail
            refine (HI1.out (by omega) (by omega) _ (by simpa using HR1.out)).mono ?_
            rintro e2 w2 ⟨rfl, S1, hp1, hs1, hr2⟩
            have HP1 := hide hp1
            have HS1 := hide hs1
            have HR2 := hide hr2
            have HL1 := hide (show S1.length = A1.length + C1.length by have := hp1.length_eq; simpa using this)
            clear hp1 hs1 hr2
            by_cases hde : e < b
            · have hz3a : (mid : Int) < (e : Int) := by omega
              have hd3a : decide (mid < e) = true := by simp; omega
              have hz3b : (e : Int) < (b : Int) := by omega
              have hd3b : decide (e < b) = true := by simp; omega
              go_wp2_with fail
              refine (HI2.out (by omega) (by omega) S1 _ (by simpa using HR2.out) HL1.out).mono ?_
              rintro e3 w3 ⟨rfl, S2, hp2, hs2, hr3⟩
              have HP2 := hide hp2
              have HS2 := hide hs2
              have HR3 := hide (show SrtS val w0 B g n cap (P ++ (S1 ++ (S2 ++ R))) w3 by simpa using hr3)
              clear hp2 hs2 hr3
              go_wp2_with fail
              go_end0
              exact symS_fin HCUT.out HP1.out HS1.out HP2.out HS2.out HR3.out HAC.out
            · have hz3a : (mid : Int) < (e : Int) := by omega
              have hd3a : decide (mid < e) = true := by simp; omega
              have hz3b : ¬ (e : Int) < (b : Int) := by omega
              have hd3b : decide (e < b) = false := by simp; omega
              obtain ⟨S2, hS2⟩ : ∃ S2, A2 ++ C2 = S2 := ⟨_, rfl⟩
              have HP2 := hide (show S2.Perm (A2 ++ C2) by rw [hS2])
              have HS2 := hide (show S2.Pairwise lt by
                rw [← hS2]
                rcases (show A2.length = 0 ∨ C2.length = 0 by have := HLN.out; omega) with h | h
                · rw [List.eq_nil_of_length_eq_zero h]; exact HCP2.out
                · rw [List.eq_nil_of_length_eq_zero h, List.append_nil]; exact HAP2.out)
              have HR3 := hide (show SrtS val w0 B g n cap (P ++ (S1 ++ (S2 ++ R))) w2 by rw [← hS2]; simpa using HR2.out)
              clear hS2
              go_wp2_with fail
              go_end0
              exact symS_fin HCUT.out HP1.out HS1.out HP2.out HS2.out HR3.out HAC.out
          · have hz2a : ¬ (a : Int) < (s : Int) := by omega
            have hd2a : decide (a < s) = false := by simp; omega
            obtain ⟨S1, hS1⟩ : ∃ S1, A1 ++ C1 = S1 := ⟨_, rfl⟩
            obtain ⟨w2, rfl⟩ : ∃ w2, w2 = w1 := ⟨_, rfl⟩
            have HP1 := hide (show S1.Perm (A1 ++ C1) by rw [hS1])
            have HL1 := hide (show S1.length = A1.length + C1.length by rw [← hS1]; simp)
            have HS1 := hide (show S1.Pairwise lt by
              rw [← hS1]
              rcases (show A1.length = 0 ∨ C1.length = 0 by have := HLN.out; omega) with h | h
              · rw [List.eq_nil_of_length_eq_zero h]; exact HCP1.out
              · rw [List.eq_nil_of_length_eq_zero h, List.append_nil]; exact HAP1.out)
            have HR2 := hide (show SrtS val w0 B g n cap (P ++ (S1 ++ (A2 ++ (C2 ++ R)))) w2 by rw [← hS1]; simpa using HR1.out)
            clear hS1
            by_cases hde : e < b
            · have hz3a : (mid : Int) < (e : Int) := by omega
              have hd3a : decide (mid < e) = true := by simp; omega
              have hz3b : (e : Int) < (b : Int) := by omega
              have hd3b : decide (e < b) = true := by simp; omega
              go_wp2_with fail
              refine (HI2.out (by omega) (by omega) S1 _ (by simpa using HR2.out) HL1.out).mono ?_
              rintro e3 w3 ⟨rfl, S2, hp2, hs2, hr3⟩
              have HP2 := hide hp2
              have HS2 := hide hs2
              have HR3 := hide (show SrtS val w0 B g n cap (P ++ (S1 ++ (S2 ++ R))) w3 by simpa using hr3)
              clear hp2 hs2 hr3
              go_wp2_with fail
              go_end0
              exact symS_fin HCUT.out HP1.out HS1.out HP2.out HS2.out HR3.out HAC.out
            · have hz3a : (mid : Int) < (e : Int) := by omega
              have hd3a : decide (mid < e) = true := by simp; omega
              have hz3b : ¬ (e : Int) < (b : Int) := by omega
              have hd3b : decide (e < b) = false := by simp; omega
              obtain ⟨S2, hS2⟩ : ∃ S2, A2 ++ C2 = S2 := ⟨_, rfl⟩
              have HP2 := hide (show S2.Perm (A2 ++ C2) by rw [hS2])
              have HS2 := hide (show S2.Pairwise lt by
                rw [← hS2]
                rcases (show A2.length = 0 ∨ C2.length = 0 by have := HLN.out; omega) with h | h
                · rw [List.eq_nil_of_length_eq_zero h]; exact HCP2.out
                · rw [List.eq_nil_of_length_eq_zero h, List.append_nil]; exact HAP2.out)
              have HR3 := hide (show SrtS val w0 B g n cap (P ++ (S1 ++ (S2 ++ R))) w2 by rw [← hS2]; simpa using HR2.out)
              clear hS2
              go_wp2_with fail
              go_end0
              exact symS_fin HCUT.out HP1.out HS1.out HP2.out HS2.out HR3.out HAC.out
        · have hz1a : (s : Int) < (m : Int) := by omega
          have hd1a : decide (s < m) = true := by simp; omega
          have hz1b : ¬ (m : Int) < (e : Int) := by omega
          have hd1b : decide (m < e) = false := by simp; omega
          obtain ⟨w1, rfl⟩ : ∃ w1, w1 = wr := ⟨_, rfl⟩
          have HR1 := hide (show SrtS val w0 B g n cap ((P ++ A1) ++ (C1 ++ (A2 ++ (C2 ++ R)))) w1 by
            rcases (show A2.length = 0 ∨ C1.length = 0 by have := HLN.out; omega) with h | h
            · have h2 := HR0.out
              rw [List.eq_nil_of_length_eq_zero h] at h2 ⊢
              exact h2
            · have h2 := HR0.out
              rw [List.eq_nil_of_length_eq_zero h] at h2 ⊢
              exact h2)
          by_cases hga : a < s
          · have hz2a : (a : Int) < (s : Int) := by omega
            have hd2a : decide (a < s) = true := by simp; omega
            have hz2b : ¬ (s : Int) < (mid : Int) := by omega
            have hd2b : decide (s < mid) = false := by simp; omega
            obtain ⟨S1, hS1⟩ : ∃ S1, A1 ++ C1 = S1 := ⟨_, rfl⟩
            obtain ⟨w2, rfl⟩ : ∃ w2, w2 = w1 := ⟨_, rfl⟩
            have HP1 := hide (show S1.Perm (A1 ++ C1) by rw [hS1])
            have HL1 := hide (show S1.length = A1.length + C1.length by rw [← hS1]; simp)
            have HS1 := hide (show S1.Pairwise lt by
              rw [← hS1]
              rcases (show A1.length = 0 ∨ C1.length = 0 by have := HLN.out; omega) with h | h
              · rw [List.eq_nil_of_length_eq_zero h]; exact HCP1.out
              · rw [List.eq_nil_of_length_eq_zero h, List.append_nil]; exact HAP1.out)
            have HR2 := hide (show SrtS val w0 B g n cap (P ++ (S1 ++ (A2 ++ (C2 ++ R)))) w2 by rw [← hS1]; simpa using HR1.out)
            clear hS1
            by_cases hde : e < b
            · have hz3a : (mid : Int) < (e : Int) := by omega
              have hd3a : decide (mid < e) = true := by simp; omega
              have hz3b : (e : Int) < (b : Int) := by omega
              have hd3b : decide (e < b) = true := by simp; omega
              go_wp2_with fail
              refine (HI2.out (by omega) (by omega) S1 _ (by simpa using HR2.out) HL1.out).mono ?_
              rintro e3 w3 ⟨rfl, S2, hp2, hs2, hr3⟩
              have HP2 := hide hp2
              have HS2 := hide hs2
              have HR3 := hide (show SrtS val w0 B g n cap (P ++ (S1 ++ (S2 ++ R))) w3 by simpa using hr3)
              clear hp2 hs2 hr3
              go_wp2_with fail
              go_end0
              exact symS_fin HCUT.out HP1.out HS1.out HP2.out HS2.out HR3.out HAC.out
            · have hz3a : (mid : Int) < (e : Int) := by omega
              have hd3a : decide (mid < e) = true := by simp; omega
              have hz3b : ¬ (e : Int) < (b : Int) := by omega
              have hd3b : decide (e < b) = false := by simp; omega
              obtain ⟨S2, hS2⟩ : ∃ S2, A2 ++ C2 = S2 := ⟨_, rfl⟩
              have HP2 := hide (show S2.Perm (A2 ++ C2) by rw [hS2])
              have HS2 := hide (show S2.Pairwise lt by
                rw [← hS2]
                rcases (show A2.length = 0 ∨ C2.length = 0 by have := HLN.out; omega) with h | h
                · rw [List.eq_nil_of_length_eq_zero h]; exact HCP2.out
                · rw [List.eq_nil_of_length_eq_zero h, List.append_nil]; exact HAP2.out)
              have HR3 := hide (show SrtS val w0 B g n cap (P ++ (S1 ++ (S2 ++ R))) w2 by rw [← hS2]; simpa using HR2.out)
              clear hS2
              go_wp2_with fail
              go_end0
              exact symS_fin HCUT.out HP1.out HS1.out HP2.out HS2.out HR3.out HAC.out
          · have hz2a : ¬ (a : Int) < (s : Int) := by omega
            have hd2a : decide (a < s) = false := by simp; omega
            obtain ⟨S1, hS1⟩ : ∃ S1, A1 ++ C1 = S1 := ⟨_, rfl⟩
            obtain ⟨w2, rfl⟩ : ∃ w2, w2 = w1 := ⟨_, rfl⟩
            have HP1 := hide (show S1.Perm (A1 ++ C1) by rw [hS1])
            have HL1 := hide (show S1.length = A1.length + C1.length by rw [← hS1]; simp)
            have HS1 := hide (show S1.Pairwise lt by
              rw [← hS1]
              rcases (show A1.length = 0 ∨ C1.length = 0 by have := HLN.out; omega) with h | h
              · rw [List.eq_nil_of_length_eq_zero h]; exact HCP1.out
              · rw [List.eq_nil_of_length_eq_zero h, List.append_nil]; exact HAP1.out)
            have HR2 := hide (show SrtS val w0 B g n cap (P ++ (S1 ++ (A2 ++ (C2 ++ R)))) w2 by rw [← hS1]; simpa using HR1.out)
            clear hS1
            by_cases hde : e < b
            · have hz3a : (mid : Int) < (e : Int) := by omega
              have hd3a : decide (mid < e) = true := by simp; omega
              have hz3b : (e : Int) < (b : Int) := by omega
              have hd3b : decide (e < b) = true := by simp; omega
              go_wp2_with fail
              refine (HI2.out (by omega) (by omega) S1 _ (by simpa using HR2.out) HL1.out).mono ?_
              rintro e3 w3 ⟨rfl, S2, hp2, hs2, hr3⟩
              have HP2 := hide hp2
              have HS2 := hide hs2
              have HR3 := hide (show SrtS val w0 B g n cap (P ++ (S1 ++ (S2 ++ R))) w3 by simpa using hr3)
              clear hp2 hs2 hr3
              go_wp2_with fail
              go_end0
              exact symS_fin HCUT.out HP1.out HS1.out HP2.out HS2.out HR3.out HAC.out
            · have hz3a : (mid : Int) < (e : Int) := by omega
              have hd3a : decide (mid < e) = true := by simp; omega
              have hz3b : ¬ (e : Int) < (b : Int) := by omega
              have hd3b : decide (e < b) = false := by simp; omega
              obtain ⟨S2, hS2⟩ : ∃ S2, A2 ++ C2 = S2 := ⟨_, rfl⟩
              have HP2 := hide (show S2.Perm (A2 ++ C2) by rw [hS2])
              have HS2 := hide (show S2.Pairwise lt by
                rw [← hS2]
                rcases (show A2.length = 0 ∨ C2.length = 0 by have := HLN.out; omega) with h | h
                · rw [List.eq_nil_of_length_eq_zero h]; exact HCP2.out
                · rw [List.eq_nil_of_length_eq_zero h, List.append_nil]; exact HAP2.out)
              have HR3 := hide (show SrtS val w0 B g n cap (P ++ (S1 ++ (S2 ++ R))) w2 by rw [← hS2]; simpa using HR2.out)
              clear hS2
              go_wp2_with fail
              go_end0
              exact symS_fin HCUT.out HP1.out HS1.out HP2.out HS2.out HR3.out HAC.out
  · go_enter Tryz.func175, Tryz.ntmps175
    go_wp2_with fail
    go_loopw [20, 21] (fun q1 q2 wr => ∃ s r : Nat, q1 = .int .i64 s ∧ q2 = .int .i64 r ∧ lo ≤ s ∧ s ≤ r ∧ r ≤ hi ∧ Hid (CutAt lt A C a m p lo hi s r) ∧ SrtS val w0 B g n cap (P ++ (A ++ (C ++ R))) wr) (fun q1 q2 _ => (RowKit.intOf q2 - RowKit.intOf q1).toNat)
    case atStart =>
      exact ⟨lo, hi, by first | rfl | (congr 1; have := HLH.out; omega), by first | rfl | (congr 1; have := HLH.out; omega), Nat.le_refl _, hlol, Nat.le_refl _, hide ⟨fun c x y h1 h2 => by omega, fun c x y h1 h2 => by omega⟩, HS.out⟩
    case round =>
      obtain ⟨s, r, rfl, rfl, hs1, hsr, hrh, hcut, hr⟩ := hrel
      have HR := hide hr
      by_cases hlt : s < r
      · obtain ⟨c, hc⟩ : ∃ c, (s + r) / 2 = c := ⟨_, rfl⟩
        have hc1 : s ≤ c := by omega
        have hc2 : c < r := by omega
        have hcz : ((s : Int) + (r : Int)) / 2 = (c : Int) := by omega
        obtain ⟨k1, k2, k3⟩ := HPR.out c (by omega) (by omega)
        obtain ⟨d, hd⟩ : ∃ d, p - c = d := ⟨_, rfl⟩
        have hdz : (p : Int) - (c : Int) = (d : Int) := by omega
        rw [hd] at k1 k2
        obtain ⟨x, hx⟩ := get_of (l := A) (k := c - a) (by have := HH.out; omega)
        obtain ⟨y, hy⟩ := get_of (l := C) (k := d - m) (by have := HH.out; omega)
        have hxA := List.mem_of_getElem? hx
        have hyC := List.mem_of_getElem? hy
        have c0 := hr.at (i := c) (x := x) (by
          obtain ⟨g1, g2, g3, g4⟩ := HH.out
          rw [List.getElem?_append_right (by omega), List.getElem?_append_left (by omega), ← g1]; exact hx)
        have c1 := hr.at (i := d) (x := y) (by
          obtain ⟨g1, g2, g3, g4⟩ := HH.out
          rw [List.getElem?_append_right (by omega), List.getElem?_append_right (by omega), List.getElem?_append_left (by omega), ← hy]; congr 1; omega)
        have hcl := HC.out.cls hr (HUC.out y hyC) (HUA.out x hxA)
        have hls := HC.out.less y x (HUC.out y hyC) (HUA.out x hxA) (HAC2.out x hxA y hyC)
        have hbd := HC.out.bd y x
        have htot := HC.out.ord.total y x (by have := HAC2.out x hxA y hyC; omega)
        obtain ⟨v, hv⟩ : ∃ v, cf y x = v := ⟨_, rfl⟩
        rw [hv] at hcl hls hbd
        have HCL := hide hcl
        have HLS := hide hls
        have HTOT := hide htot
        have HXX := hide hx
        have HYY := hide hy
        have HD := hide hd
        have hs63 : (s : Int) + (r : Int) ≤ 2000000 := by omega
        have hc63 : (0 : Int) ≤ (c : Int) := by omega
        have hcn : (c : Int) < (n : Int) := by omega
        have hd63 : (0 : Int) ≤ (d : Int) := by omega
        have hdn : (d : Int) < (n : Int) := by omega
        have hwd : IntKind.i64.wrap (d : Int) = (d : Int) := IntWalk.i64_in _ (by omega)
        clear hr hcl hls htot hx hy hxA hyC hv hc hd
        rcases (show v = -1 ∨ v = 0 ∨ v = 1 by omega) with rfl | rfl | rfl
        · obtain ⟨c00, c01, c02, c03⟩ := c0
          obtain ⟨c10, c11, c12, c13⟩ := c1
          go_wp2_with fail
          refine wp_region_class (fun W => Below wr.heap.size wr W) (by kernel_rfl) (by kernel_rfl) (Below.refl _ _).drew ?_
          repeat (first
            | go_big_quiet_skip
            | (go_big_quiet_want
               first
                 | (go_big_quiet_op
                    go_big_quiet_on)
                 | (refine quiet_call (v := .int .i64 (-1)) (f := 63) (args := #[.agg #[.int .i64 (val y).f, .int .i64 (val y).b, .int .i64 (val y).k, .int .i64 (val y).m], .agg #[.int .i64 (val x).f, .int .i64 (val x).b, .int .i64 (val x).k, .int .i64 (val x).m]]) ?_ ?_ ?_
                    · intro W hW
                      have c00 := kept hW c00
                      have c01 := kept hW c01
                      have c02 := kept hW c02
                      have c03 := kept hW c03
                      have c10 := kept hW c10
                      have c11 := kept hW c11
                      have c12 := kept hW c12
                      have c13 := kept hW c13
                      clear hW
                      go_simp
                      done
                    · intro W hW
                      exact HCL.out W hW
                    simp only [Act.put, List.setIfInBounds_toArray, List.set_cons_zero, List.set_cons_succ]
                    go_big_quiet_on)
                 | (refine quiet_yield (v := ?_) ?_ ?_
                    rotate_left
                    · intro W hW
                      have c00 := kept hW c00
                      have c01 := kept hW c01
                      have c02 := kept hW c02
                      have c03 := kept hW c03
                      have c10 := kept hW c10
                      have c11 := kept hW c11
                      have c12 := kept hW c12
                      have c13 := kept hW c13
                      clear hW
                      go_simp
                      try with_reducible rfl
                    simp only [Act.put, List.setIfInBounds_toArray, List.set_cons_zero, List.set_cons_succ]
                    go_big_quiet_on)))
          refine wpQuiet_nil ?_
          intro W hW
          have HW := hide hW
          clear hW c00 c01 c02 c03 c10 c11 c12 c13
          go_wp2_with fail
          go_roundw
          case rel =>
            have hyx : lt y x := HLS.out.1 (by omega)
            exact ⟨s, c, rfl, by go_num, hs1, hc1, by omega, hide ⟨hcut.out.lo, fun c' x' y' h1 h2 hx' hy' => by
              rcases Nat.lt_or_ge c c' with h5 | h5
              · have e1 : lt x x' := pw_at HA.out HXX.out hx' (by omega)
                have e2 : lt y' y := pw_at HCC.out hy' HYY.out (by have := HPR.out c' (by omega) h2; have := HD.out; omega)
                exact HC.out.ord.trans _ _ _ e2 (HC.out.ord.trans _ _ _ hyx e1)
              · obtain rfl : c' = c := by omega
                rw [HXX.out] at hx'; cases hx'
                rw [HD.out, HYY.out] at hy'; cases hy'
                exact hyx⟩, HR.out.below HW.out⟩
          case measure => simp [RowKit.intOf]; omega
        · obtain ⟨c00, c01, c02, c03⟩ := c0
          obtain ⟨c10, c11, c12, c13⟩ := c1
          go_wp2_with fail
          refine wp_region_class (fun W => Below wr.heap.size wr W) (by kernel_rfl) (by kernel_rfl) (Below.refl _ _).drew ?_
          repeat (first
            | go_big_quiet_skip
            | (go_big_quiet_want
               first
                 | (go_big_quiet_op
                    go_big_quiet_on)
                 | (refine quiet_call (v := .int .i64 0) (f := 63) (args := #[.agg #[.int .i64 (val y).f, .int .i64 (val y).b, .int .i64 (val y).k, .int .i64 (val y).m], .agg #[.int .i64 (val x).f, .int .i64 (val x).b, .int .i64 (val x).k, .int .i64 (val x).m]]) ?_ ?_ ?_
                    · intro W hW
                      have c00 := kept hW c00
                      have c01 := kept hW c01
                      have c02 := kept hW c02
                      have c03 := kept hW c03
                      have c10 := kept hW c10
                      have c11 := kept hW c11
                      have c12 := kept hW c12
                      have c13 := kept hW c13
                      clear hW
                      go_simp
                      done
                    · intro W hW
                      exact HCL.out W hW
                    simp only [Act.put, List.setIfInBounds_toArray, List.set_cons_zero, List.set_cons_succ]
                    go_big_quiet_on)
                 | (refine quiet_yield (v := ?_) ?_ ?_
                    rotate_left
                    · intro W hW
                      have c00 := kept hW c00
                      have c01 := kept hW c01
                      have c02 := kept hW c02
                      have c03 := kept hW c03
                      have c10 := kept hW c10
                      have c11 := kept hW c11
                      have c12 := kept hW c12
                      have c13 := kept hW c13
                      clear hW
                      go_simp
                      try with_reducible rfl
                    simp only [Act.put, List.setIfInBounds_toArray, List.set_cons_zero, List.set_cons_succ]
                    go_big_quiet_on)))
          refine wpQuiet_nil ?_
          intro W hW
          have HW := hide hW
          clear hW c00 c01 c02 c03 c10 c11 c12 c13
          go_wp2_with fail
          go_roundw
          case rel =>
            have hxy : lt x y := HTOT.out (fun h => absurd (HLS.out.2 h) (by omega))
            exact ⟨c + 1, r, by go_num, rfl, by omega, by omega, hrh, hide ⟨fun c' x' y' h1 h2 hx' hy' => by
              rcases Nat.lt_or_ge c' c with h5 | h5
              · have e1 : lt x' x := pw_at HA.out hx' HXX.out (by omega)
                have e2 : lt y y' := pw_at HCC.out HYY.out hy' (by have := HPR.out c' (by omega) (by omega); have := HD.out; omega)
                exact HC.out.ord.trans _ _ _ (HC.out.ord.trans _ _ _ e1 hxy) e2
              · obtain rfl : c' = c := by omega
                rw [HXX.out] at hx'; cases hx'
                rw [HD.out, HYY.out] at hy'; cases hy'
                exact hxy, hcut.out.hi⟩, HR.out.below HW.out⟩
          case measure => simp [RowKit.intOf]; omega
        · obtain ⟨c00, c01, c02, c03⟩ := c0
          obtain ⟨c10, c11, c12, c13⟩ := c1
          go_wp2_with fail
          refine wp_region_class (fun W => Below wr.heap.size wr W) (by kernel_rfl) (by kernel_rfl) (Below.refl _ _).drew ?_
          repeat (first
            | go_big_quiet_skip
            | (go_big_quiet_want
               first
                 | (go_big_quiet_op
                    go_big_quiet_on)
                 | (refine quiet_call (v := .int .i64 1) (f := 63) (args := #[.agg #[.int .i64 (val y).f, .int .i64 (val y).b, .int .i64 (val y).k, .int .i64 (val y).m], .agg #[.int .i64 (val x).f, .int .i64 (val x).b, .int .i64 (val x).k, .int .i64 (val x).m]]) ?_ ?_ ?_
                    · intro W hW
                      have c00 := kept hW c00
                      have c01 := kept hW c01
                      have c02 := kept hW c02
                      have c03 := kept hW c03
                      have c10 := kept hW c10
                      have c11 := kept hW c11
                      have c12 := kept hW c12
                      have c13 := kept hW c13
                      clear hW
                      go_simp
                      done
                    · intro W hW
                      exact HCL.out W hW
                    simp only [Act.put, List.setIfInBounds_toArray, List.set_cons_zero, List.set_cons_succ]
                    go_big_quiet_on)
                 | (refine quiet_yield (v := ?_) ?_ ?_
                    rotate_left
                    · intro W hW
                      have c00 := kept hW c00
                      have c01 := kept hW c01
                      have c02 := kept hW c02
                      have c03 := kept hW c03
                      have c10 := kept hW c10
                      have c11 := kept hW c11
                      have c12 := kept hW c12
                      have c13 := kept hW c13
                      clear hW
                      go_simp
                      try with_reducible rfl
                    simp only [Act.put, List.setIfInBounds_toArray, List.set_cons_zero, List.set_cons_succ]
                    go_big_quiet_on)))
          refine wpQuiet_nil ?_
          intro W hW
          have HW := hide hW
          clear hW c00 c01 c02 c03 c10 c11 c12 c13
          go_wp2_with fail
          go_roundw
          case rel =>
            have hxy : lt x y := HTOT.out (fun h => absurd (HLS.out.2 h) (by omega))
            exact ⟨c + 1, r, by go_num, rfl, by omega, by omega, hrh, hide ⟨fun c' x' y' h1 h2 hx' hy' => by
              rcases Nat.lt_or_ge c' c with h5 | h5
              · have e1 : lt x' x := pw_at HA.out hx' HXX.out (by omega)
                have e2 : lt y y' := pw_at HCC.out HYY.out hy' (by have := HPR.out c' (by omega) (by omega); have := HD.out; omega)
                exact HC.out.ord.trans _ _ _ (HC.out.ord.trans _ _ _ e1 hxy) e2
              · obtain rfl : c' = c := by omega
                rw [HXX.out] at hx'; cases hx'
                rw [HD.out, HYY.out] at hy'; cases hy'
                exact hxy, hcut.out.hi⟩, HR.out.below HW.out⟩
          case measure => simp [RowKit.intOf]; omega
      · obtain rfl : s = r := by omega
        have hss : ¬ (s : Int) < (s : Int) := by omega
        obtain ⟨e, he⟩ : ∃ e, n' - s = e := ⟨_, rfl⟩
        have hes : e + s = n' := by have := HMID.out; omega
        obtain ⟨hme, heb⟩ := HEB.out s e hs1 hrh hes
        have hez : (n' : Int) - (s : Int) = (e : Int) := by omega
        obtain ⟨A1, hA1⟩ : ∃ L, A.take (s - a) = L := ⟨_, rfl⟩
        obtain ⟨A2, hA2⟩ : ∃ L, A.drop (s - a) = L := ⟨_, rfl⟩
        obtain ⟨C1, hC1⟩ : ∃ L, C.take (e - m) = L := ⟨_, rfl⟩
        obtain ⟨C2, hC2⟩ : ∃ L, C.drop (e - m) = L := ⟨_, rfl⟩
        have hA12 : A1 ++ A2 = A := by rw [← hA1, ← hA2]; exact List.take_append_drop _ _
        have hC12 : C1 ++ C2 = C := by rw [← hC1, ← hC2]; exact List.take_append_drop _ _
        have hcl := cut_less HC.out.ord.trans HA.out HCC.out HH.out.2.1 HH.out.2.2.1 hcut.out halo hs1 hrh hhim HPR.out e (by have := HMID.out; omega) (HLO2.out s e hes).1 (HLO2.out s e hes).2 hme heb
        rw [hA1, hA2, hC1, hC2] at hcl
        have HCUT := hide hcl
        have hln : A1.length = s - a ∧ A2.length = m - s ∧ C1.length = e - m ∧ C2.length = b - e ∧ e - m = mid - s ∧ s ≤ m ∧ s ≤ mid ∧ a ≤ s := by
          rw [← hA1, ← hA2, ← hC1, ← hC2]
          have := HH.out; have := HMID.out
          simp only [List.length_take, List.length_drop]
          omega
        have HLN := hide (show A1.length = s - a ∧ A2.length = m - s ∧ C1.length = e - m ∧ C2.length = b - e ∧ e - m = mid - s from ⟨hln.1, hln.2.1, hln.2.2.1, hln.2.2.2.1, hln.2.2.2.2.1⟩)
        obtain ⟨_, _, _, _, _, hsm0, hsmid0, has0⟩ := hln
        have HAC := hide (show A1 ++ A2 = A ∧ C1 ++ C2 = C from ⟨hA12, hC12⟩)
        have hpA := HA.out
        have hpC := HCC.out
        rw [← hA12, List.pairwise_append] at hpA
        rw [← hC12, List.pairwise_append] at hpC
        have HAP1 := hide hpA.1
        have HAP2 := hide hpA.2.1
        have HCP1 := hide hpC.1
        have HCP2 := hide hpC.2.1
        have hms : s = a ∨ a < s := by omega
        have HROT := hide (fun (h1 : 1 ≤ A2.length) (h2 : 1 ≤ C1.length) => rotS_any (val := val) (w0 := w0) (B := B) (g := g) (n := n) (cap := cap) (P ++ A1) A2 C1 (C2 ++ R) s m e (by have := HLN.out; have := HH.out; simp; omega) (by have := HLN.out; omega) (by have := HLN.out; omega) h1 h2 (.func (.func 63) #[] #[]) (hn := hn))
        have HI1 := hide (fun (h1 : 1 ≤ A1.length) (h2 : 1 ≤ C1.length) => HIH.out P A1 C1 (A2 ++ (C2 ++ R)) a s mid (by have := HLN.out; have := HH.out; omega) HH.out.1 (by have := HLN.out; omega) (by have := HLN.out; omega) h1 h2 HAP1.out HCP1.out (fun x hx y hy => HAC2.out x (by rw [← HAC.out.1]; exact List.mem_append_left _ hx) y (by rw [← HAC.out.2]; exact List.mem_append_left _ hy))
          (fun x hx => HUA.out x (by rw [← HAC.out.1]; exact List.mem_append_left _ hx)) (fun y hy => HUC.out y (by rw [← HAC.out.2]; exact List.mem_append_left _ hy)) hn)
        have HI2 := hide (fun (h1 : 1 ≤ A2.length) (h2 : 1 ≤ C2.length) (S1 : List α) W hW (hl : S1.length = A1.length + C1.length) => HIH.out (P ++ S1) A2 C2 R mid e b (by have := HLN.out; have := HH.out; omega) (by have := HLN.out; have := HH.out; simp; omega) (by have := HLN.out; omega) (by have := HLN.out; omega) h1 h2 HAP2.out HCP2.out (fun x hx y hy => HAC2.out x (by rw [← HAC.out.1]; exact List.mem_append_right _ hx) y (by rw [← HAC.out.2]; exact List.mem_append_right _ hy))
          (fun x hx => HUA.out x (by rw [← HAC.out.1]; exact List.mem_append_right _ hx)) (fun y hy => HUC.out y (by rw [← HAC.out.2]; exact List.mem_append_right _ hy)) hn W hW)
        have HR0 := hide (show SrtS val w0 B g n cap ((P ++ A1) ++ (A2 ++ (C1 ++ (C2 ++ R)))) wr by
          have h := hr
          rw [← hA12, ← hC12] at h
          simpa using h)
        have hemid : mid < e ↔ s < m := by have := HMID.out; omega
        have hC1n : m < e ↔ s < mid := by have := HMID.out; omega
        clear hr hcl hpA hpC hA1 hA2 hC1 hC2 hA12 hC12 hlt hcut he hes HPR HLO2 HEB HMID HS HC HA HCC HAC2 HUA HUC HIH HLH HH HR
        rcases (show ( s < m ∧  s < mid) ∨ (¬ s < m ∧  s < mid) ∨ (¬ s < m ∧ ¬ s < mid) by omega) with ⟨hal, hbe⟩ | ⟨hal, hbe⟩ | ⟨hal, hbe⟩
        · have hz1a : (s : Int) < (m : Int) := by omega
          have hd1a : decide (s < m) = true := by simp; omega
          have hz1b : (m : Int) < (e : Int) := by omega
          have hd1b : decide (m < e) = true := by simp; omega
          go_wp2_with fail
          refine (HROT.out (by omega) (by omega) _ HR0.out).mono ?_
          rintro e1 w1 ⟨rfl, hr1⟩
          have HR1 := hide hr1
          clear hr1
          by_cases hga : a < s
          · have hz2a : (a : Int) < (s : Int) := by omega
            have hd2a : decide (a < s) = true := by simp; omega
            have hz2b : (s : Int) < (mid : Int) := by omega
            have hd2b : decide (s < mid) = true := by simp; omega
            go_wp2_with fail
            refine (HI1.out (by omega) (by omega) _ (by simpa using HR1.out)).mono ?_
            rintro e2 w2 ⟨rfl, S1, hp1, hs1, hr2⟩
            have HP1 := hide hp1
            have HS1 := hide hs1
            have HR2 := hide hr2
            have HL1 := hide (show S1.length = A1.length + C1.length by have := hp1.length_eq; simpa using this)
            clear hp1 hs1 hr2
            by_cases hde : e < b
            · have hz3a : (mid : Int) < (e : Int) := by omega
              have hd3a : decide (mid < e) = true := by simp; omega
              have hz3b : (e : Int) < (b : Int) := by omega
              have hd3b : decide (e < b) = true := by simp; omega
              go_wp2_with fail
              refine (HI2.out (by omega) (by omega) S1 _ (by simpa using HR2.out) HL1.out).mono ?_
              rintro e3 w3 ⟨rfl, S2, hp2, hs2, hr3⟩
              have HP2 := hide hp2
              have HS2 := hide hs2
              have HR3 := hide (show SrtS val w0 B g n cap (P ++ (S1 ++ (S2 ++ R))) w3 by simpa using hr3)
              clear hp2 hs2 hr3
              go_wp2_with fail
              go_end0
              exact symS_fin HCUT.out HP1.out HS1.out HP2.out HS2.out HR3.out HAC.out
            · have hz3a : (mid : Int) < (e : Int) := by omega
              have hd3a : decide (mid < e) = true := by simp; omega
              have hz3b : ¬ (e : Int) < (b : Int) := by omega
              have hd3b : decide (e < b) = false := by simp; omega
              obtain ⟨S2, hS2⟩ : ∃ S2, A2 ++ C2 = S2 := ⟨_, rfl⟩
              have HP2 := hide (show S2.Perm (A2 ++ C2) by rw [hS2])
              have HS2 := hide (show S2.Pairwise lt by
                rw [← hS2]
                rcases (show A2.length = 0 ∨ C2.length = 0 by have := HLN.out; omega) with h | h
                · rw [List.eq_nil_of_length_eq_zero h]; exact HCP2.out
                · rw [List.eq_nil_of_length_eq_zero h, List.append_nil]; exact HAP2.out)
              have HR3 := hide (show SrtS val w0 B g n cap (P ++ (S1 ++ (S2 ++ R))) w2 by rw [← hS2]; simpa using HR2.out)
              clear hS2
              go_wp2_with fail
              go_end0
              exact symS_fin HCUT.out HP1.out HS1.out HP2.out HS2.out HR3.out HAC.out
          · have hz2a : ¬ (a : Int) < (s : Int) := by omega
            have hd2a : decide (a < s) = false := by simp; omega
            obtain ⟨S1, hS1⟩ : ∃ S1, A1 ++ C1 = S1 := ⟨_, rfl⟩
            obtain ⟨w2, rfl⟩ : ∃ w2, w2 = w1 := ⟨_, rfl⟩
            have HP1 := hide (show S1.Perm (A1 ++ C1) by rw [hS1])
            have HL1 := hide (show S1.length = A1.length + C1.length by rw [← hS1]; simp)
            have HS1 := hide (show S1.Pairwise lt by
              rw [← hS1]
              rcases (show A1.length = 0 ∨ C1.length = 0 by have := HLN.out; omega) with h | h
              · rw [List.eq_nil_of_length_eq_zero h]; exact HCP1.out
              · rw [List.eq_nil_of_length_eq_zero h, List.append_nil]; exact HAP1.out)
            have HR2 := hide (show SrtS val w0 B g n cap (P ++ (S1 ++ (A2 ++ (C2 ++ R)))) w2 by rw [← hS1]; simpa using HR1.out)
            clear hS1
            by_cases hde : e < b
            · have hz3a : (mid : Int) < (e : Int) := by omega
              have hd3a : decide (mid < e) = true := by simp; omega
              have hz3b : (e : Int) < (b : Int) := by omega
              have hd3b : decide (e < b) = true := by simp; omega
              go_wp2_with fail
              refine (HI2.out (by omega) (by omega) S1 _ (by simpa using HR2.out) HL1.out).mono ?_
              rintro e3 w3 ⟨rfl, S2, hp2, hs2, hr3⟩
              have HP2 := hide hp2
              have HS2 := hide hs2
              have HR3 := hide (show SrtS val w0 B g n cap (P ++ (S1 ++ (S2 ++ R))) w3 by simpa using hr3)
              clear hp2 hs2 hr3
              go_wp2_with fail
              go_end0
              exact symS_fin HCUT.out HP1.out HS1.out HP2.out HS2.out HR3.out HAC.out
            · have hz3a : (mid : Int) < (e : Int) := by omega
              have hd3a : decide (mid < e) = true := by simp; omega
              have hz3b : ¬ (e : Int) < (b : Int) := by omega
              have hd3b : decide (e < b) = false := by simp; omega
              obtain ⟨S2, hS2⟩ : ∃ S2, A2 ++ C2 = S2 := ⟨_, rfl⟩
              have HP2 := hide (show S2.Perm (A2 ++ C2) by rw [hS2])
              have HS2 := hide (show S2.Pairwise lt by
                rw [← hS2]
                rcases (show A2.length = 0 ∨ C2.length = 0 by have := HLN.out; omega) with h | h
                · rw [List.eq_nil_of_length_eq_zero h]; exact HCP2.out
                · rw [List.eq_nil_of_length_eq_zero h, List.append_nil]; exact HAP2.out)
              have HR3 := hide (show SrtS val w0 B g n cap (P ++ (S1 ++ (S2 ++ R))) w2 by rw [← hS2]; simpa using HR2.out)
              clear hS2
              go_wp2_with fail
              go_end0
              exact symS_fin HCUT.out HP1.out HS1.out HP2.out HS2.out HR3.out HAC.out
        · have hz1a : ¬ (s : Int) < (m : Int) := by omega
          have hd1a : decide (s < m) = false := by simp; omega
          obtain ⟨w1, rfl⟩ : ∃ w1, w1 = wr := ⟨_, rfl⟩
          have HR1 := hide (show SrtS val w0 B g n cap ((P ++ A1) ++ (C1 ++ (A2 ++ (C2 ++ R)))) w1 by
            rcases (show A2.length = 0 ∨ C1.length = 0 by have := HLN.out; omega) with h | h
            · have h2 := HR0.out
              rw [List.eq_nil_of_length_eq_zero h] at h2 ⊢
              exact h2
            · have h2 := HR0.out
              rw [List.eq_nil_of_length_eq_zero h] at h2 ⊢
              exact h2)
          by_cases hga : a < s
          · have hz2a : (a : Int) < (s : Int) := by omega
            have hd2a : decide (a < s) = true := by simp; omega
            have hz2b : (s : Int) < (mid : Int) := by omega
            have hd2b : decide (s < mid) = true := by simp; omega
            go_wp2_with fail
            refine (HI1.out (by omega) (by omega) _ (by simpa using HR1.out)).mono ?_
            rintro e2 w2 ⟨rfl, S1, hp1, hs1, hr2⟩
            have HP1 := hide hp1
            have HS1 := hide hs1
            have HR2 := hide hr2
            have HL1 := hide (show S1.length = A1.length + C1.length by have := hp1.length_eq; simpa using this)
            clear hp1 hs1 hr2
            by_cases hde : e < b
            · have hz3a : ¬ (mid : Int) < (e : Int) := by omega
              have hd3a : decide (mid < e) = false := by simp; omega
              obtain ⟨S2, hS2⟩ : ∃ S2, A2 ++ C2 = S2 := ⟨_, rfl⟩
              have HP2 := hide (show S2.Perm (A2 ++ C2) by rw [hS2])
              have HS2 := hide (show S2.Pairwise lt by
                rw [← hS2]
                rcases (show A2.length = 0 ∨ C2.length = 0 by have := HLN.out; omega) with h | h
                · rw [List.eq_nil_of_length_eq_zero h]; exact HCP2.out
                · rw [List.eq_nil_of_length_eq_zero h, List.append_nil]; exact HAP2.out)
              have HR3 := hide (show SrtS val w0 B g n cap (P ++ (S1 ++ (S2 ++ R))) w2 by rw [← hS2]; simpa using HR2.out)
              clear hS2
              go_wp2_with fail
              go_end0
              exact symS_fin HCUT.out HP1.out HS1.out HP2.out HS2.out HR3.out HAC.out
            · have hz3a : ¬ (mid : Int) < (e : Int) := by omega
              have hd3a : decide (mid < e) = false := by simp; omega
              obtain ⟨S2, hS2⟩ : ∃ S2, A2 ++ C2 = S2 := ⟨_, rfl⟩
              have HP2 := hide (show S2.Perm (A2 ++ C2) by rw [hS2])
              have HS2 := hide (show S2.Pairwise lt by
                rw [← hS2]
                rcases (show A2.length = 0 ∨ C2.length = 0 by have := HLN.out; omega) with h | h
                · rw [List.eq_nil_of_length_eq_zero h]; exact HCP2.out
                · rw [List.eq_nil_of_length_eq_zero h, List.append_nil]; exact HAP2.out)
              have HR3 := hide (show SrtS val w0 B g n cap (P ++ (S1 ++ (S2 ++ R))) w2 by rw [← hS2]; simpa using HR2.out)
              clear hS2
              go_wp2_with fail
              go_end0
              exact symS_fin HCUT.out HP1.out HS1.out HP2.out HS2.out HR3.out HAC.out
          · have hz2a : ¬ (a : Int) < (s : Int) := by omega
            have hd2a : decide (a < s) = false := by simp; omega
            obtain ⟨S1, hS1⟩ : ∃ S1, A1 ++ C1 = S1 := ⟨_, rfl⟩
            obtain ⟨w2, rfl⟩ : ∃ w2, w2 = w1 := ⟨_, rfl⟩
            have HP1 := hide (show S1.Perm (A1 ++ C1) by rw [hS1])
            have HL1 := hide (show S1.length = A1.length + C1.length by rw [← hS1]; simp)
            have HS1 := hide (show S1.Pairwise lt by
              rw [← hS1]
              rcases (show A1.length = 0 ∨ C1.length = 0 by have := HLN.out; omega) with h | h
              · rw [List.eq_nil_of_length_eq_zero h]; exact HCP1.out
              · rw [List.eq_nil_of_length_eq_zero h, List.append_nil]; exact HAP1.out)
            have HR2 := hide (show SrtS val w0 B g n cap (P ++ (S1 ++ (A2 ++ (C2 ++ R)))) w2 by rw [← hS1]; simpa using HR1.out)
            clear hS1
            by_cases hde : e < b
            · have hz3a : ¬ (mid : Int) < (e : Int) := by omega
              have hd3a : decide (mid < e) = false := by simp; omega
              obtain ⟨S2, hS2⟩ : ∃ S2, A2 ++ C2 = S2 := ⟨_, rfl⟩
              have HP2 := hide (show S2.Perm (A2 ++ C2) by rw [hS2])
              have HS2 := hide (show S2.Pairwise lt by
                rw [← hS2]
                rcases (show A2.length = 0 ∨ C2.length = 0 by have := HLN.out; omega) with h | h
                · rw [List.eq_nil_of_length_eq_zero h]; exact HCP2.out
                · rw [List.eq_nil_of_length_eq_zero h, List.append_nil]; exact HAP2.out)
              have HR3 := hide (show SrtS val w0 B g n cap (P ++ (S1 ++ (S2 ++ R))) w2 by rw [← hS2]; simpa using HR2.out)
              clear hS2
              go_wp2_with fail
              go_end0
              exact symS_fin HCUT.out HP1.out HS1.out HP2.out HS2.out HR3.out HAC.out
            · have hz3a : ¬ (mid : Int) < (e : Int) := by omega
              have hd3a : decide (mid < e) = false := by simp; omega
              obtain ⟨S2, hS2⟩ : ∃ S2, A2 ++ C2 = S2 := ⟨_, rfl⟩
              have HP2 := hide (show S2.Perm (A2 ++ C2) by rw [hS2])
              have HS2 := hide (show S2.Pairwise lt by
                rw [← hS2]
                rcases (show A2.length = 0 ∨ C2.length = 0 by have := HLN.out; omega) with h | h
                · rw [List.eq_nil_of_length_eq_zero h]; exact HCP2.out
                · rw [List.eq_nil_of_length_eq_zero h, List.append_nil]; exact HAP2.out)
              have HR3 := hide (show SrtS val w0 B g n cap (P ++ (S1 ++ (S2 ++ R))) w2 by rw [← hS2]; simpa using HR2.out)
              clear hS2
              go_wp2_with fail
              go_end0
              exact symS_fin HCUT.out HP1.out HS1.out HP2.out HS2.out HR3.out HAC.out
        · have hz1a : ¬ (s : Int) < (m : Int) := by omega
          have hd1a : decide (s < m) = false := by simp; omega
          obtain ⟨w1, rfl⟩ : ∃ w1, w1 = wr := ⟨_, rfl⟩
          have HR1 := hide (show SrtS val w0 B g n cap ((P ++ A1) ++ (C1 ++ (A2 ++ (C2 ++ R)))) w1 by
            rcases (show A2.length = 0 ∨ C1.length = 0 by have := HLN.out; omega) with h | h
            · have h2 := HR0.out
              rw [List.eq_nil_of_length_eq_zero h] at h2 ⊢
              exact h2
            · have h2 := HR0.out
              rw [List.eq_nil_of_length_eq_zero h] at h2 ⊢
              exact h2)
          by_cases hga : a < s
          · have hz2a : (a : Int) < (s : Int) := by omega
            have hd2a : decide (a < s) = true := by simp; omega
            have hz2b : ¬ (s : Int) < (mid : Int) := by omega
            have hd2b : decide (s < mid) = false := by simp; omega
            obtain ⟨S1, hS1⟩ : ∃ S1, A1 ++ C1 = S1 := ⟨_, rfl⟩
            obtain ⟨w2, rfl⟩ : ∃ w2, w2 = w1 := ⟨_, rfl⟩
            have HP1 := hide (show S1.Perm (A1 ++ C1) by rw [hS1])
            have HL1 := hide (show S1.length = A1.length + C1.length by rw [← hS1]; simp)
            have HS1 := hide (show S1.Pairwise lt by
              rw [← hS1]
              rcases (show A1.length = 0 ∨ C1.length = 0 by have := HLN.out; omega) with h | h
              · rw [List.eq_nil_of_length_eq_zero h]; exact HCP1.out
              · rw [List.eq_nil_of_length_eq_zero h, List.append_nil]; exact HAP1.out)
            have HR2 := hide (show SrtS val w0 B g n cap (P ++ (S1 ++ (A2 ++ (C2 ++ R)))) w2 by rw [← hS1]; simpa using HR1.out)
            clear hS1
            by_cases hde : e < b
            · have hz3a : ¬ (mid : Int) < (e : Int) := by omega
              have hd3a : decide (mid < e) = false := by simp; omega
              obtain ⟨S2, hS2⟩ : ∃ S2, A2 ++ C2 = S2 := ⟨_, rfl⟩
              have HP2 := hide (show S2.Perm (A2 ++ C2) by rw [hS2])
              have HS2 := hide (show S2.Pairwise lt by
                rw [← hS2]
                rcases (show A2.length = 0 ∨ C2.length = 0 by have := HLN.out; omega) with h | h
                · rw [List.eq_nil_of_length_eq_zero h]; exact HCP2.out
                · rw [List.eq_nil_of_length_eq_zero h, List.append_nil]; exact HAP2.out)
              have HR3 := hide (show SrtS val w0 B g n cap (P ++ (S1 ++ (S2 ++ R))) w2 by rw [← hS2]; simpa using HR2.out)
              clear hS2
              go_wp2_with fail
              go_end0
              exact symS_fin HCUT.out HP1.out HS1.out HP2.out HS2.out HR3.out HAC.out
            · have hz3a : ¬ (mid : Int) < (e : Int) := by omega
              have hd3a : decide (mid < e) = false := by simp; omega
              obtain ⟨S2, hS2⟩ : ∃ S2, A2 ++ C2 = S2 := ⟨_, rfl⟩
              have HP2 := hide (show S2.Perm (A2 ++ C2) by rw [hS2])
              have HS2 := hide (show S2.Pairwise lt by
                rw [← hS2]
                rcases (show A2.length = 0 ∨ C2.length = 0 by have := HLN.out; omega) with h | h
                · rw [List.eq_nil_of_length_eq_zero h]; exact HCP2.out
                · rw [List.eq_nil_of_length_eq_zero h, List.append_nil]; exact HAP2.out)
              have HR3 := hide (show SrtS val w0 B g n cap (P ++ (S1 ++ (S2 ++ R))) w2 by rw [← hS2]; simpa using HR2.out)
              clear hS2
              go_wp2_with fail
              go_end0
              exact symS_fin HCUT.out HP1.out HS1.out HP2.out HS2.out HR3.out HAC.out
          · have hz2a : ¬ (a : Int) < (s : Int) := by omega
            have hd2a : decide (a < s) = false := by simp; omega
            obtain ⟨S1, hS1⟩ : ∃ S1, A1 ++ C1 = S1 := ⟨_, rfl⟩
            obtain ⟨w2, rfl⟩ : ∃ w2, w2 = w1 := ⟨_, rfl⟩
            have HP1 := hide (show S1.Perm (A1 ++ C1) by rw [hS1])
            have HL1 := hide (show S1.length = A1.length + C1.length by rw [← hS1]; simp)
            have HS1 := hide (show S1.Pairwise lt by
              rw [← hS1]
              rcases (show A1.length = 0 ∨ C1.length = 0 by have := HLN.out; omega) with h | h
              · rw [List.eq_nil_of_length_eq_zero h]; exact HCP1.out
              · rw [List.eq_nil_of_length_eq_zero h, List.append_nil]; exact HAP1.out)
            have HR2 := hide (show SrtS val w0 B g n cap (P ++ (S1 ++ (A2 ++ (C2 ++ R)))) w2 by rw [← hS1]; simpa using HR1.out)
            clear hS1
            by_cases hde : e < b
            · have hz3a : ¬ (mid : Int) < (e : Int) := by omega
              have hd3a : decide (mid < e) = false := by simp; omega
              obtain ⟨S2, hS2⟩ : ∃ S2, A2 ++ C2 = S2 := ⟨_, rfl⟩
              have HP2 := hide (show S2.Perm (A2 ++ C2) by rw [hS2])
              have HS2 := hide (show S2.Pairwise lt by
                rw [← hS2]
                rcases (show A2.length = 0 ∨ C2.length = 0 by have := HLN.out; omega) with h | h
                · rw [List.eq_nil_of_length_eq_zero h]; exact HCP2.out
                · rw [List.eq_nil_of_length_eq_zero h, List.append_nil]; exact HAP2.out)
              have HR3 := hide (show SrtS val w0 B g n cap (P ++ (S1 ++ (S2 ++ R))) w2 by rw [← hS2]; simpa using HR2.out)
              clear hS2
              go_wp2_with fail
              go_end0
              exact symS_fin HCUT.out HP1.out HS1.out HP2.out HS2.out HR3.out HAC.out
            · have hz3a : ¬ (mid : Int) < (e : Int) := by omega
              have hd3a : decide (mid < e) = false := by simp; omega
              obtain ⟨S2, hS2⟩ : ∃ S2, A2 ++ C2 = S2 := ⟨_, rfl⟩
              have HP2 := hide (show S2.Perm (A2 ++ C2) by rw [hS2])
              have HS2 := hide (show S2.Pairwise lt by
                rw [← hS2]
                rcases (show A2.length = 0 ∨ C2.length = 0 by have := HLN.out; omega) with h | h
                · rw [List.eq_nil_of_length_eq_zero h]; exact HCP2.out
                · rw [List.eq_nil_of_length_eq_zero h, List.append_nil]; exact HAP2.out)
              have HR3 := hide (show SrtS val w0 B g n cap (P ++ (S1 ++ (S2 ++ R))) w2 by rw [← hS2]; simpa using HR2.out)
              clear hS2
              go_wp2_with fail
              go_end0
              exact symS_fin HCUT.out HP1.out HS1.out HP2.out HS2.out HR3.out HAC.out
end
end Go.Proofs.YtmfohnchnbgbaaaGreat
