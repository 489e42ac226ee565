/- Part 45 of the proof. -/
import Derived.Shelf.Spec.SlicesInsert
import Derived.Test.YtmfohnchnbgbaaaGreatDoorYpM07
import Derived.Test.YtmfohnchnbgbaaaGreatDoorYpM13
import Derived.Test.YtmfohnchnbgbaaaGreatDoorYpM44
/- What is due with a change less, or more; histories of one change at most. -/
namespace Go.Proofs.YtmfohnchnbgbaaaGreatDoor
open Go.RowKit

theorem ordd_small (h : Hi) (w : World) (hv : HV w h) (hn : h.cs.length ≤ 1) : Ordd w h h.cs := by
  refine ⟨List.range h.cs.length, by simp; omega, fun j o ho => ?_, by simp, fun W hW => ?_⟩
  · obtain ⟨hj, rfl⟩ := List.getElem?_eq_some_iff.1 ho
    simp only [List.length_range] at hj
    simp only [List.getElem_range]
    exact ⟨h.cs[j], List.getElem?_eq_getElem hj, List.getElem?_eq_getElem hj⟩
  · exact order_small h W hn hv.cs.le
/-- What is due of such a history, where none was cancelled short. -/
def due0 (h : Hi) (M : List Ver) : Int × Int := dueQ (0, slE h h.cs M) (slL h h.cs M)
theorem due0_any (h : Hi) (A : Option Addr) (cap n : Nat) (M : List Vw) (w : World) (hv : HV w h) (hT : TV w A n cap M) (hm : ∀ x ∈ M, LenV x) (hn : h.cs.length ≤ 1) (hsh : shortC h.cs = false) :
    Calls Tryz.prog 17 #[.agg #[.int .i64 h.id, .int .i64 h.bk, .int .i64 h.tm.f, .int .i64 h.tm.t, .int .i64 h.tm.k, .int .i64 h.tm.v, .int .i64 h.tm.a, .int .i64 h.tm.z, .slice h.tm.A h.tm.l.length h.tm.cap, .slice h.A h.cs.length h.cap], .agg #[.slice A n cap]] w fun e w' => e = .returned (.tuple #[.int .i64 (due0 h (allV M)).1, .int .i64 (due0 h (allV M)).2]) ∧ Below w.heap.size w w' :=
  due_any h h.cs A cap n M (0, slE h h.cs (allV M)) w hv hT hm (fun _ => ordd_small h w hv hn)
    (fun W hW => kept0_any h h.cs A cap n M W (hv.below hW) (hT.below hW) hm (fun _ => ordd_small h W (hv.below hW) hn) hsh) ⟨Int.le_refl _, by simp⟩ (fun h => h)
set_option maxRecDepth 100000 in
set_option maxHeartbeats 4000000 in
theorem given0_any (h : Hi) (c : Ch) (A : Option Addr) (cap n : Nat) (M : List Vw) (a b : Int) (w : World) (hv : HV w h) (hT : TV w A n cap M) (hM : ∀ x ∈ M, LenV x) (hcs : h.cs = []) (hA : h.A = none) (hcap : h.cap = 0) (hcv : SV w 5 c.A c.l.length c.cap (c.l.map encCv)) (hoc : okCh c)
    (hr : changeB c = true) (hin : inB h.tm.f h.tm.t c.d = true) (hb : h.bk ≤ c.b) (hm : h.tm.l.length ≤ 1000000 ∧ c.l.length ≤ 1000000) (ha : due0 h (allV M) = (a, 0))
    (hx : ∀ (tA cA A : Option Addr) (tc cc cap : Nat), shortC [{ c with A := cA, cap := cc }] = false ∧ due0 { h with tm := { h.tm with A := tA, cap := tc }, A := A, cs := [{ c with A := cA, cap := cc }], cap := cap } (allV M) = (b, 0)) (hab : 0 ≤ a ∧ a ≤ 4000000000000000000 ∧ 0 ≤ b ∧ b ≤ 4000000000000000000) :
    Calls Tryz.prog 20 #[.agg #[.int .i64 h.id, .int .i64 h.bk, .int .i64 h.tm.f, .int .i64 h.tm.t, .int .i64 h.tm.k, .int .i64 h.tm.v, .int .i64 h.tm.a, .int .i64 h.tm.z, .slice h.tm.A h.tm.l.length h.tm.cap, .slice h.A h.cs.length h.cap], .agg #[.slice A n cap], .agg #[.int .i64 c.b, .int .i64 c.d, .int .i64 c.k, .int .i64 c.rk, .int .i64 c.rv, .int .i64 c.ra, .int .i64 c.rz, .slice c.A c.l.length c.cap, .int .i64 c.way]] w fun e w' => e = .returned (.tuple #[.int .i64 (a - b), .int .i64 0]) ∧ Below w.heap.size w w' := by
  obtain rfl : M.length = n := hT.len
  obtain ⟨w1, hw1⟩ : ∃ W, ((w.alloc (.cells (hiC h) 64)).alloc (.cells #[.slice A M.length cap] 67)).alloc (.cells (chA c c.A c.cap) 77) = W := ⟨_, rfl⟩
  have hH1 : Blk w1 w.heap.size 64 (hiC h) := by rw [← hw1]; exact ((Blk.new _ _ _).alloc _).alloc _
  have hS1 : Blk w1 (w.heap.size + 1) 67 #[.slice A M.length cap] := by rw [← hw1]; exact (Blk.new' (by simp)).alloc _
  have hC1 : Blk w1 (w.heap.size + 1 + 1) 77 (chA c c.A c.cap) := by rw [← hw1]; exact Blk.new' (by simp)
  have hb1 : Below w.heap.size w w1 := by rw [← hw1]; exact (((Below.refl _ _).alloc (Nat.le_refl _) _).alloc (by simp) _).alloc (by simp; omega) _
  obtain ⟨x0, x1, x2, x3, x4, x5, x6, x7, x8, x9⟩ := hi_cells hH1
  obtain ⟨y0, y1, y2, y3, y4, y5, y6, y7, y8⟩ := chA_cells hC1
  have hz1 := hC1.lt
  have H1 := hide hb1
  have HH := hide hH1
  have HS := hide hS1
  have HV1 := hide (hv.below hb1)
  have HT1 := hide (hT.below hb1)
  have HM := hide hM
  have HX := hide hx
  have HA := hide ha
  have HPU := hide (put0_any h c w1 (hv.below hb1) hcs hA hcap (hcv.below hb1) hoc hr hin hb hm)
  have HN := hide (show h.cs.length ≤ 1 ∧ shortC h.cs = false by rw [hcs]; exact ⟨by simp, rfl⟩)
  have HW := hide hw1
  clear hH1 hS1 hC1 hb1 hw1 hv hT hM hx ha hcs hA hcap hcv hoc hr hin hb hm
  go_enter Tryz.func20, Tryz.ntmps20
  go_upto_region 1 with fail
  rw [show ((w.alloc (.cells #[.int .i64 h.id, .int .i64 h.bk, .int .i64 h.tm.f, .int .i64 h.tm.t, .int .i64 h.tm.k, .int .i64 h.tm.v, .int .i64 h.tm.a, .int .i64 h.tm.z, .slice h.tm.A h.tm.l.length h.tm.cap, .slice h.A h.cs.length h.cap] 64)).alloc (.cells #[.slice A M.length cap] 67)).alloc (.cells #[.int .i64 c.b, .int .i64 c.d, .int .i64 c.k, .int .i64 c.rk, .int .i64 c.rv, .int .i64 c.ra, .int .i64 c.rz, .slice c.A c.l.length c.cap, .int .i64 c.way] 77) = w1 from HW.out]
  go_wp2_with fail
  refine HPU.out.mono ?_
  rintro e w2 ⟨tA, cA, A8, tc, cc, c8, x, hx, rfl, hv2, h2⟩
  have hxx := HX.out tA cA A8 tc cc c8
  rw [← hx] at hxx
  have hxn : x.cs.length ≤ 1 ∧ shortC x.cs = false := by rw [hx]; exact ⟨by simp, hxx.1⟩
  have HXN := hide hxn
  have HXX := hide hxx.2
  have HVX := hide hv2
  have HH2 := hide (HH.out.below h2 (by omega))
  have HS2 := hide (HS.out.below h2 (by omega))
  have H2 := hide (chain H1.out h2)
  have HV2 := hide (HV1.out.below h2)
  have HT2 := hide (HT1.out.below h2)
  obtain ⟨w3, hw3⟩ : ∃ W, w2.alloc (.cells (hiC x) 64) = W := ⟨_, rfl⟩
  have hb3 : Below w2.heap.size w2 w3 := by rw [← hw3]; exact (Below.refl _ _).alloc (Nat.le_refl _) _
  have HX3 := hide (show Blk w3 w2.heap.size 64 (hiC x) by rw [← hw3]; exact Blk.new _ _ _)
  have HH3 := hide (HH2.out.below hb3 HH2.out.lt)
  have HS3 := hide (HS2.out.below hb3 HS2.out.lt)
  have H3 := hide (chain H2.out hb3)
  have HT3 := hide (HT2.out.below hb3)
  have HVX3 := hide (HVX.out.below hb3)
  have HD := hide (due0_any h A cap M.length M w3 (HV2.out.below hb3) HT3.out HM.out HN.out.1 HN.out.2)
  rw [HA.out] at HD
  have hz2 : w.heap.size + 1 < w2.heap.size := HS2.out.lt
  have HW3 := hide hw3
  clear hw3 hb3 hx hxx hxn hv2 h2 x0 x1 x2 x3 x4 x5 x6 x7 x8 x9 y0 y1 y2 y3 y4 y5 y6 y7 y8
  go_upto_region 2 with fail
  rw [show w2.alloc (.cells #[.int .i64 x.id, .int .i64 x.bk, .int .i64 x.tm.f, .int .i64 x.tm.t, .int .i64 x.tm.k, .int .i64 x.tm.v, .int .i64 x.tm.a, .int .i64 x.tm.z, .slice x.tm.A x.tm.l.length x.tm.cap, .slice x.A x.cs.length x.cap] 64) = w3 from HW3.out]
  obtain ⟨X, hX⟩ : ∃ X, w2.heap.size = X := ⟨_, rfl⟩
  rw [hX] at HX3 hz2 ⊢
  clear hX HW3
  obtain ⟨x0, x1, x2, x3, x4, x5, x6, x7, x8, x9⟩ := hi_cells HH3.out
  have z0 := HS3.out.cell 0
  simp at z0
  go_wp2_with fail
  refine HD.out.mono ?_
  rintro e w4 ⟨rfl, h4⟩
  have HX4 := hide (HX3.out.below h4 HX3.out.lt)
  have HS4 := hide (HS3.out.below h4 HS3.out.lt)
  have H4 := hide (chain H3.out h4)
  have HD2 := hide (due0_any x A cap M.length M w4 (HVX3.out.below h4) (HT3.out.below h4) HM.out HXN.out.1 HXN.out.2)
  rw [HXX.out] at HD2
  clear h4 x0 x1 x2 x3 x4 x5 x6 x7 x8 x9 z0
  obtain ⟨x0, x1, x2, x3, x4, x5, x6, x7, x8, x9⟩ := hi_cells HX4.out
  have z0 := HS4.out.cell 0
  simp at z0
  go_wp2_with fail
  refine HD2.out.mono ?_
  rintro e w5 ⟨rfl, h5⟩
  go_wp2_with fail
  go_ret2
  exact ⟨rfl, chain H4.out h5⟩
end Go.Proofs.YtmfohnchnbgbaaaGreatDoor

/- Rounding down. -/
namespace Go.Proofs.YtmfohnchnbgbaaaGreatDoor
open Go.RowKit

theorem dn1_any (q r c : Int) (w : World) : Calls Tryz.prog 175 #[.int .u64 q, .int .u64 r, .int .u64 c] w fun e w' => e = .returned (.bool false) ∧ w' = w := by
  go_enter Tryz.func175, Tryz.ntmps175
  go_wp2
  go_ret
  exact ⟨rfl, rfl⟩
set_option maxRecDepth 100000 in
set_option maxHeartbeats 1000000 in
theorem of_down (a b c : Nat) (ha : a ≤ 9223372036854775807) (hb : b ≤ 9223372036854775807) (hc : c ≤ 9223372036854775807) (hc0 : 0 < c) (h4 : a * b / c ≤ 4000000000000000000) (w : World) :
    Calls Tryz.prog 134 #[.agg #[.func (.func 175) #[] #[]], .int .i64 a, .int .i64 b, .int .i64 c] w
      fun e w' => e = .returned (.tuple #[.int .i64 (a * b / c : Nat), .int .i64 0]) ∧ Below w.heap.size w w' := by
  obtain ⟨Z, hZ⟩ : ∃ z, a * b / c = z := ⟨_, rfl⟩
  rw [hZ] at h4 ⊢
  have HZ := hide hZ
  clear hZ
  have ha0 : ¬ (a : Int) < 0 := by omega
  have hb0 : ¬ (b : Int) < 0 := by omega
  have hcz : ¬ (c : Int) < 0 := by omega
  have hcy : ((c : Int) == 0) = false := by simp; omega
  have C1 : IntKind.u64.wrap (a : Int) = (a : Int) := Mul64.wrapN _ (by omega)
  have C2 : IntKind.u64.wrap (b : Int) = (b : Int) := Mul64.wrapN _ (by omega)
  have C3 : IntKind.u64.wrap (c : Int) = (c : Int) := Mul64.wrapN _ (by omega)
  go_enter Tryz.func134, Tryz.ntmps134
  go_wp2_with fail
  refine (mul64_any a b (by omega) (by omega) _).mono ?_
  rintro e w1 ⟨rfl, rfl⟩
  obtain ⟨p, hp⟩ : ∃ p, a * b = p := ⟨_, rfl⟩
  rw [hp]
  have HZP := hide (show p / c = Z by rw [← hp]; exact HZ.out)
  obtain ⟨hi, hhi⟩ : ∃ z, p / 18446744073709551616 = z := ⟨_, rfl⟩
  obtain ⟨lo, hlo⟩ : ∃ z, p % 18446744073709551616 = z := ⟨_, rfl⟩
  rw [hhi, hlo]
  have hpe : 18446744073709551616 * hi + lo = p := by omega
  have hlob : lo < 18446744073709551616 := by omega
  have HPE := hide hpe
  clear hhi hlo hp
  have hbig : ¬ c ≤ hi := fun hb => by
    have hz := HZP.out
    have h1 : 18446744073709551616 ≤ p / c := by
      rw [← hpe]
      refine (Nat.le_div_iff_mul_le hc0).2 ?_
      have : 18446744073709551616 * c ≤ 18446744073709551616 * hi := Nat.mul_le_mul_left _ hb
      omega
    omega
  have hbig' : ¬ (c : Int) ≤ (hi : Int) := by omega
  clear hpe
  go_wp2_with fail
  refine (div64_any hi lo c hlob (by omega) hc0 (by omega) _).mono ?_
  rintro e w1 ⟨rfl, hb1⟩
  rw [HPE.out]
  have K0 : w1.cell? ⟨w.heap.size, 0, none⟩ = some (.func (.func 175) #[] #[]) := kept hb1 (by simp)
  have HB1 := hide (chain1 hb1)
  obtain ⟨q, hq⟩ : ∃ z, p / c = z := ⟨_, rfl⟩
  obtain ⟨r, hr⟩ : ∃ z, p % c = z := ⟨_, rfl⟩
  have HZQ := hide (show Z = q by rw [← HZP.out, hq])
  have hZq := HZQ.out
  rw [hq, hr]
  have hkl := block_lt_of_cell K0
  have hq4' : ¬ (4000000000000000000 : Int) < (q : Int) := by omega
  clear hb1 hq hr hZq
  go_wp2_with fail
  refine (dn1_any q r c _).mono ?_
  rintro e w2 ⟨rfl, rfl⟩
  go_wp2_with fail
  go_ret2
  rw [HZQ.out]
  exact ⟨rfl, HB1.out⟩
theorem down0_any (w : World) : Calls Tryz.prog 163 #[] w fun e w' => e = .returned (.agg #[.func (.func 175) #[] #[]]) ∧ Below w.heap.size w w' := by
  have hst : (store ⟨w.heap.size, 0, none⟩ (.func (.func 175) #[] #[])).run Tryz.prog (w.alloc (.cells #[.nilFunc] 241)) = .ok () ((w.alloc (.cells #[.nilFunc] 241)).setCell ⟨w.heap.size, 0, none⟩ (.func (.func 175) #[] #[])) := by
    rw [run_store Tryz.prog _ ⟨w.heap.size, 0, none⟩ _ _ (by rfl)]
    simp
  go_enter Tryz.func163, Tryz.ntmps163
  go_wp2_with fail
  exact ret_row rfl rfl rfl (Blk.new w 241 #[.func (.func 175) #[] #[]]) Tryz.underlying241 rfl (by kernel_rfl) ⟨rfl, (Below.refl _ _).alloc (Nat.le_refl _) _⟩
theorem down_any (a b c : Nat) (ha : a ≤ 9223372036854775807) (hb : b ≤ 9223372036854775807) (hc : c ≤ 9223372036854775807) (hc0 : 0 < c) (h4 : a * b / c ≤ 4000000000000000000) (w : World) :
    Calls Tryz.prog 136 #[.int .i64 a, .int .i64 b, .int .i64 c] w fun e w' => e = .returned (.tuple #[.int .i64 (a * b / c : Nat), .int .i64 0]) ∧ Below w.heap.size w w' := by
  obtain ⟨q, hq⟩ : ∃ z, a * b / c = z := ⟨_, rfl⟩
  have HO := hide (fun W => of_down a b c ha hb hc hc0 h4 W)
  rw [hq] at HO ⊢
  clear hq h4
  go_enter Tryz.func136, Tryz.ntmps136
  go_wp2_with fail
  refine (down0_any w).mono ?_
  rintro e w1 ⟨rfl, hb1⟩
  have HB1 := hide hb1
  clear hb1
  go_wp2_with fail
  refine (HO.out _).mono ?_
  rintro e w2 ⟨rfl, hb2⟩
  have HB2 := hide (chain HB1.out hb2)
  clear hb2
  go_wp2_with fail
  go_ret2
  exact ⟨rfl, HB2.out⟩
end Go.Proofs.YtmfohnchnbgbaaaGreatDoor

/- The runner: parts are added up. -/
namespace Go.Proofs.YtmfohnchnbgbaaaGreatDoor
open Go.RowKit

theorem run1_any (g : Nat) (s p : Int) (w : World) (hB : Blk w g 3 #[.int .i64 s]) (hp : 0 ≤ p) (hs : 0 ≤ s) (h4 : s + p ≤ 4000000000000000000) :
    Calls Tryz.prog 162 #[.int .i64 p, .pointer (some ⟨g, 0, none⟩)] w fun e w' => e = .returned (.tuple #[.int .i64 (s + p), .int .i64 0]) ∧ w' = w.setCell ⟨g, 0, none⟩ (.int .i64 (s + p)) := by
  have x0 := hB.cell 0
  have f0 := hB.frozen 0
  have hl := hB.lt
  simp at x0
  go_enter Tryz.func162, Tryz.ntmps162
  go_wp2_with fail
  go_ret2
  exact ⟨rfl, rfl⟩
theorem runner_any (w : World) : Calls Tryz.prog 135 #[] w fun e w' => e = .returned (.func (.func 162) #[] #[.pointer (some ⟨w.heap.size, 0, none⟩)]) ∧ Blk w' w.heap.size 3 #[.int .i64 0] ∧ Below w.heap.size w w' := by
  have hmf : ∀ (fn : Fn) (first cap : Array Value) (w : World), (Instr.makeFunc fn first cap).run Tryz.prog w = .ok (.func fn first cap) w := fun _ _ _ _ => rfl
  go_enter Tryz.func135, Tryz.ntmps135
  go_wp2_with fail
  go_ret
  exact ⟨rfl, Blk.new _ _ _, (Below.refl _ _).alloc (Nat.le_refl _) _⟩
end Go.Proofs.YtmfohnchnbgbaaaGreatDoor

/- Whether a number is among some. -/
namespace Go.Proofs.YtmfohnchnbgbaaaGreatDoor
open Go.RowKit

theorem index_yes (A : Option Addr) (cap n k : Nat) (l : List Int) (v : Int) (w : World) (hs : SV w 1 A n cap (l.map encI)) (hk : l[k]? = some v) (hm : n ≤ 1000000) :
    Calls Tryz.prog 85 #[.slice A n cap, .int .i64 v] w fun e w' => (∃ j : Nat, e = .returned (.int .i64 j)) ∧ Below w.heap.size w w' := by
  have hn : l.length = n := by have := hs.len; simpa using this
  have HN := hide hn
  have HS := hide hs
  have HK := hide hk
  have hkn : k < n := by have := lt_of_get hk; omega
  clear hn hs hk
  go_enter Tryz.func85, Tryz.ntmps85
  go_wp2_with fail
  go_loopw [8] (fun q wr => ∃ i : Nat, i ≤ k ∧ q = .int .i64 i ∧ w = wr) (fun q _ => k - (RowKit.intOf q).toNat)
  case atStart => exact ⟨0, Nat.zero_le _, rfl, rfl⟩
  case round =>
    obtain ⟨i, hi, rfl, rfl⟩ := hrel
    obtain ⟨x, hx⟩ := get_of (l := l) (k := i) (by rw [HN.out]; omega)
    obtain ⟨b, off, rfl, -, hco⟩ := HS.out.sl i (encI x) (by simp [hx])
    have oc := hco 0 _ rfl
    rw [Nat.mul_one, Nat.add_zero] at oc
    have hk0 : (0 : Int) ≤ (i : Int) := by omega
    have hk1 : (i : Int) < (n : Int) := by omega
    have HX := hide hx
    clear hco hx
    by_cases hv : v = x
    · subst hv
      go_wp2_with fail
      go_ret
      exact ⟨⟨i, by first | rfl | trivial⟩, Below.refl _ _⟩
    · have hq : (v == x) = false := by simpa using hv
      have hik : i < k := by
        rcases Nat.lt_or_ge i k with h | h
        · exact h
        · have : i = k := by omega
          subst this
          have h1 := HX.out
          rw [HK.out] at h1
          exact absurd (Option.some.inj h1) hv
      clear hv
      go_wp2_with fail
      go_roundw
      case rel => exact ⟨i + 1, by omega, by go_num, by first | rfl | trivial⟩
      case measure => simp [RowKit.intOf]; omega
theorem contains_yes (A : Option Addr) (cap n k : Nat) (l : List Int) (v : Int) (w : World) (hs : SV w 1 A n cap (l.map encI)) (hk : l[k]? = some v) (hm : n ≤ 1000000) :
    Calls Tryz.prog 45 #[.slice A n cap, .int .i64 v] w fun e w' => e = .returned (.bool true) ∧ Below w.heap.size w w' := by
  have HI := hide (index_yes A cap n k l v w hs hk hm)
  clear hs hk
  go_enter Tryz.func45, Tryz.ntmps45
  go_wp2_with fail
  refine HI.out.mono ?_
  rintro e w2 ⟨⟨j, rfl⟩, h2⟩
  have hj : (0 : Int) ≤ (j : Int) := by omega
  go_wp2_with fail
  go_ret
  exact ⟨ret_bool (by simp), h2⟩
end Go.Proofs.YtmfohnchnbgbaaaGreatDoor

/- slices.Repeat of one number, twice; what is dealt out equally. -/
namespace Go.Proofs.YtmfohnchnbgbaaaGreatDoor
open Go.RowKit Go.Lib

/-- copy, of rows of sz cells. -/
theorem run_copy_rows {P : Program} (w : World) (dT sT ty elem : TypeId) (sz : Nat) (b o dLen dCap : Nat) (a : Addr) (sLen sCap : Nat) (cs : List Value)
    (hu : P.underlying dT = some (.slice elem)) (hs : (P.info? elem).map (·.size) = some sz) (hn : cs.length = Nat.min sLen dLen * sz)
    (hsrc : ∀ j v, cs[j]? = some v → w.cell? (a.add j) = some v) (hc : ∀ j, j < cs.length → (w.cell? ⟨b, o + j, none⟩).isSome = true) (hf : ∀ j, j < cs.length → w.frozen? ⟨b, o + j, none⟩ = false) (h1 : ∀ v ∈ cs, v.oneCell' = true) :
    (Builtin.copy_ #[dT, sT] ty #[.slice (some ⟨b, o, none⟩) dLen dCap, .slice (some a) sLen sCap]).run P w = .ok (goInt (Nat.min sLen dLen)) (w.setCells b o cs) := by
  have hl := run_loadCells_list (P := P) w a cs hsrc
  have hst := run_storeCells_cells (P := P) b o cs 0 w (by simpa using hc) (by simpa using hf) h1
  cases hq : P.info? elem with
  | none => simp [hq] at hs
  | some i =>
    have hi : i.size = sz := by simpa [hq] using hs
    rw [hn] at hl
    simp [Builtin.copy_, run_underlying hu, Builtin.lenOf, Builtin.firstCells, sizeOf, typeInfo, hq, hi, hl, hst]

theorem bmul_any (x y : Nat) (hx : x < 4294967296) (hy : y < 4294967296) (w : World) :
    Calls Tryz.prog 137 #[.int .u64 x, .int .u64 y] w fun e w' => e = .returned (.tuple #[.int .u64 0, .int .u64 ((x * y : Nat) : Int)]) ∧ w' = w := by
  have hxy : x * y < 18446744073709551616 := by
    have := Nat.mul_lt_mul'' hx hy
    omega
  have C1 : IntKind.u64.wrap (x : Int) = (x : Int) := Mul64.wrapN _ (by omega)
  have C2 : IntKind.u64.wrap (y : Int) = (y : Int) := Mul64.wrapN _ (by omega)
  obtain ⟨p, hp⟩ : ∃ p, x * y = p := ⟨_, rfl⟩
  have hm := mul64_any x y (by omega) (by omega) w
  rw [hp] at hxy hm ⊢
  rw [Nat.div_eq_of_lt hxy, Nat.mod_eq_of_lt hxy] at hm
  have C3 : IntKind.u64.wrap (p : Int) = (p : Int) := Mul64.wrapN _ (by omega)
  have HM := hide hm
  clear hm
  go_enter Tryz.func137, Tryz.ntmps137
  go_wp2_with fail
  refine HM.out.mono ?_
  rintro e w1 ⟨rfl, rfl⟩
  go_wp2_with fail
  go_ret2
  exact ⟨rfl, rfl⟩

set_option maxRecDepth 100000 in
set_option maxHeartbeats 4000000 in
theorem repeat_any (A : Option Addr) (cap : Nat) (w : World) (hs : SV w 1 A 1 cap ([1].map encI)) :
    Calls Tryz.prog 88 #[.slice A 1 cap, .int .i64 2] w fun e w' => e = .returned (.slice (some ⟨w.heap.size, 0, none⟩) 2 2) ∧ Blk w' w.heap.size 3 #[.int .i64 1, .int .i64 1] ∧ Below w.heap.size w w' := by
  obtain ⟨b, off, rfl, hbl, hco⟩ := hs.sl 0 (encI 1) rfl
  have c0 := hco 0 _ rfl
  rw [Nat.zero_mul, Nat.add_zero] at c0
  have hmk : (Instr.makeSlice 36 (.int .i64 2) (.int .i64 2)).run Tryz.prog w = .ok (.slice (some ⟨w.heap.size, 0, none⟩) 2 2) (w.alloc (.cells (cellsI [0, 0]) 3)) := make_ints 2 [0, 0] rfl (by decide) rfl w
  obtain ⟨w1, hw1⟩ : ∃ W, w.alloc (.cells (cellsI [0, 0]) 3) = W := ⟨_, rfl⟩
  have hB1 : Blk w1 w.heap.size 3 #[.int .i64 0, .int .i64 0] := by rw [← hw1]; exact Blk.new _ _ _
  have hb1 : Below w.heap.size w w1 := by rw [← hw1]; exact (Below.refl _ _).alloc (Nat.le_refl _) _
  have c1 := kept hb1 c0
  rw [hw1] at hmk
  have hcp1 : ∀ ty, (Builtin.copy_ #[36, 36] ty #[.slice (some ⟨w.heap.size, 0, none⟩) 2 2, .slice (some ⟨b, off, none⟩) 1 cap]).run Tryz.prog w1 = .ok (goInt 1) (w1.setCells w.heap.size 0 [.int .i64 1]) := fun ty => by
    refine run_copy_rows w1 _ _ ty 3 1 w.heap.size 0 2 2 ⟨b, off, none⟩ 1 cap [.int .i64 1] Tryz.underlying36 (by kernel_rfl) rfl ?_ ?_ ?_ (by simp [Value.oneCell'])
    · intro j v hj
      rcases j with _ | j
      · simp at hj; subst hj; rw [Addr.add_lit]; exact c1
      · simp at hj
    · intro j hj
      rw [hB1.cell]
      rcases j with _ | j
      · rfl
      · simp at hj
    · intro j hj; exact hB1.frozen _
  obtain ⟨w2, hw2⟩ : ∃ W, w1.setCells w.heap.size 0 [.int .i64 1] = W := ⟨_, rfl⟩
  have hB2 : Blk w2 w.heap.size 3 #[.int .i64 1, .int .i64 0] := by rw [← hw2]; exact hB1.set_ 0 _
  have hb2 : Below w.heap.size w w2 := by rw [← hw2]; exact hb1.setCell (p := ⟨w.heap.size, 0, none⟩) (Nat.le_refl _) _
  rw [hw2] at hcp1
  have hcp2 : ∀ ty dc sc, (Builtin.copy_ #[36, 36] ty #[.slice (some ⟨w.heap.size, 1, none⟩) 1 dc, .slice (some ⟨w.heap.size, 0, none⟩) 1 sc]).run Tryz.prog w2.drew = .ok (goInt 1) (w2.drew.setCells w.heap.size 1 [.int .i64 1]) := fun ty dc sc => by
    refine run_copy_rows w2.drew _ _ ty 3 1 w.heap.size 1 1 dc ⟨w.heap.size, 0, none⟩ 1 sc [.int .i64 1] Tryz.underlying36 (by kernel_rfl) rfl ?_ ?_ ?_ (by simp [Value.oneCell'])
    · intro j v hj
      rcases j with _ | j
      · simp at hj; subst hj; rw [Addr.add_lit]; exact hB2.drew.cell 0
      · simp at hj
    · intro j hj
      rw [hB2.drew.cell]
      rcases j with _ | j
      · rfl
      · simp at hj
    · intro j hj; exact hB2.drew.frozen _
  obtain ⟨w3, hw3⟩ : ∃ W, w2.drew.setCells w.heap.size 1 [.int .i64 1] = W := ⟨_, rfl⟩
  have hB3 : Blk w3 w.heap.size 3 #[.int .i64 1, .int .i64 1] := by rw [← hw3]; exact hB2.drew.set_ 1 _
  have hb3 : Below w.heap.size w w3 := by rw [← hw3]; exact hb2.drew.setCell (p := ⟨w.heap.size, 1, none⟩) (Nat.le_refl _) _
  rw [hw3] at hcp2
  have HB3 := hide hB3
  have H3 := hide hb3
  have HMK := hide hmk
  have HC1 := hide hcp1
  have HC2 := hide hcp2
  have C1 : IntKind.u64.wrap (1 : Int) = 1 := by decide
  have C2 : IntKind.u64.wrap (2 : Int) = 2 := by decide
  have C3 : IntKind.i64.wrap (2 : Int) = 2 := by decide
  have hm := bmul_any 1 2 (by decide) (by decide) w
  simp at hm
  have HM := hide hm
  clear hm hs hbl hco c0 c1 hmk hw1 hB1 hb1 hcp1 hw2 hB2 hb2 hcp2 hw3 hB3 hb3
  go_enter Tryz.func88, Tryz.ntmps88
  go_wp2_with fail
  refine HM.out.mono ?_
  rintro e w' ⟨rfl, rfl⟩
  have hmk := HMK.out
  have hcp1 := HC1.out
  go_wp2_with fail
  clear hmk hcp1
  go_loopw [8] (fun n wr => ∃ k : Nat, n = .int .i64 k ∧ ((k = 1 ∧ wr = w2) ∨ (k = 2 ∧ wr = w3))) (fun n _ => 2 - (RowKit.intOf n).toNat)
  case atStart => exact ⟨1, rfl, .inl ⟨rfl, rfl⟩⟩
  case round =>
    obtain ⟨k, rfl, ⟨rfl, rfl⟩ | ⟨rfl, rfl⟩⟩ := hrel
    · have hcp2 := HC2.out
      have hdr : wr.drew.heap.size = wr.heap.size := rfl
      go_wp2_with fail
      go_region_law fail
      clear hcp2
      simp only [Act.put, List.getElem_toArray, List.getElem_cons_succ, List.getElem_cons_zero, List.setIfInBounds_toArray, List.set_cons_zero, List.set_cons_succ]
      go_roundw
      case rel =>
        exact ⟨_, _, _, _, _, _, _, _, _, _, _, _, _, _, ⟨2, rfl, .inr ⟨rfl, rfl⟩⟩, rfl⟩
      case measure => simp [RowKit.intOf]
    · go_wp2_with fail
      go_ret
      exact ⟨rfl, HB3.out, H3.out⟩
end Go.Proofs.YtmfohnchnbgbaaaGreatDoor
