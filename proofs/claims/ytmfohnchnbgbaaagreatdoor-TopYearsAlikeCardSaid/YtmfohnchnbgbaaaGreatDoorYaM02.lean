/- Part 2 of the proof. -/
import Derived.BigQuiet
import Derived.Deep.QuietTactic
import Derived.Deep.CutRange
import Derived.Deep.CutBlock
import Derived.Deep.RegionHeld3
import Derived.Maps.OwnSet
import Derived.Deep.DeepCutAuto
import Derived.Deep.RegionLaw
import Derived.Laws.CopyOwn
import Derived.Deep.OwnRows
import Derived.Test.YtmfohnchnbgbaaaGreatDoorYaM01
/- Two words by one: the library's division. -/
namespace Go.Proofs.YtmfohnchnbgbaaaGreatDoor
open Go.RowKit

set_option maxRecDepth 100000 in
set_option maxHeartbeats 1000000 in
theorem div64_zero (lo y : Nat) (hlo : lo < 18446744073709551616) (hy : y < 9223372036854775808) (hy0 : 0 < y) (w : World) :
    Calls Tryz.prog 161 #[.int .u64 0, .int .u64 lo, .int .u64 y] w fun e w' => e = .returned (.tuple #[.int .u64 ((lo / y : Nat) : Int), .int .u64 ((lo % y : Nat) : Int)]) ∧ Below w.heap.size w w' := by
  have hyz : ¬ ((y : Int) = 0) := by omega
  have hyp : (0 : Int) < (y : Int) := by omega
  go_enter Tryz.func161, Tryz.ntmps161
  go_wp2
  go_quiet (fail)
  go_wp2
  go_ret2
  refine ⟨?_, bel_drewN (Below.refl _ _) _⟩
  show Ending.returned (.tuple #[.int .u64 (IntKind.u64.wrap ((lo : Int) / (y : Int))), .int .u64 ((lo : Int) % (y : Int))]) = _
  have h1 : IntKind.u64.wrap ((lo : Int) / (y : Int)) = ((lo / y : Nat) : Int) := by
    rw [← Int.natCast_ediv]
    exact Mul64.wrapN _ (Nat.lt_of_le_of_lt (Nat.div_le_self _ _) hlo)
  rw [h1, ← Int.natCast_emod]

/-- A digit. -/
def DigitOf (un u1 Y q : Nat) : Prop := q ≤ 4294967297 ∧ q * Y ≤ 4294967296 * un + u1 ∧ 4294967296 * un + u1 - q * Y < Y
theorem digit_wrap {un u1 q Y n : Nat} (hd : DigitOf un u1 Y q) (hY : Y < 18446744073709551616) (hn : 4294967296 * un + u1 - q * Y = n) :
    IntKind.u64.wrap (IntKind.u64.wrap (IntKind.u64.wrap ((un : Int) * 4294967296) + (u1 : Int)) - IntKind.u64.wrap ((q : Int) * (Y : Int))) = (n : Int) := by
  obtain ⟨_, h1, h2⟩ := hd
  rw [← Int.natCast_mul]
  generalize q * Y = Z at *
  simp only [IntKind.wrap_u64]
  omega
theorem cast_shl (a s : Nat) : ((a * 2 ^ s : Nat) : Int) = (a : Int) * 2 ^ s := by rw [Int.natCast_mul, Int.natCast_pow]; rfl
/-- The numbers moved up. -/
theorem shift_facts {hi lo y s Y H L un : Nat} (hlo : lo < 18446744073709551616) (hhi : hi < y) (hs1 : 1 ≤ s) (hs2 : s ≤ 63) (hsu : 9223372036854775808 ≤ y * 2 ^ s ∧ y * 2 ^ s < 18446744073709551616)
    (hY : y * 2 ^ s = Y) (hH : hi * 2 ^ s = H) (hL : lo * 2 ^ s % 18446744073709551616 = L) (hun : H + lo / 2 ^ (64 - s) = un) :
    bits .or .u64 (H : Int) ((lo : Int) / 2 ^ (64 - s)) = (un : Int) ∧ un < Y ∧ 18446744073709551616 * un + L = (18446744073709551616 * hi + lo) * 2 ^ s := by
  have hpw : 2 ^ (64 - s) * 2 ^ s = 18446744073709551616 := by
    rw [← Nat.pow_add, show 64 - s + s = 64 by omega]
  have hps : 0 < 2 ^ s := Nat.two_pow_pos s
  obtain ⟨P, hP⟩ : ∃ P, lo / 2 ^ (64 - s) = P := ⟨_, rfl⟩
  have hPlt : P < 2 ^ s := by
    rw [← hP]
    refine Nat.div_lt_of_lt_mul ?_
    rw [hpw]; exact hlo
  have hPe : lo * 2 ^ s / 18446744073709551616 = P := by
    rw [← hpw, Nat.mul_div_mul_right _ _ hps, hP]
  have hcast : (lo : Int) / 2 ^ (64 - s) = (P : Int) := by
    rw [← hP, Int.natCast_ediv, Int.natCast_pow]; rfl
  have hunlt : un < Y := by
    rw [hP] at hun
    have h1 : (hi + 1) * 2 ^ s ≤ y * 2 ^ s := Nat.mul_le_mul_right _ hhi
    rw [Nat.add_mul, Nat.one_mul, hH, hY] at h1
    omega
  rw [hP] at hun
  refine ⟨?_, hunlt, ?_⟩
  · rw [hcast]
    have hb := bits_or_u64_nat H P (by omega) (by omega)
    rw [hb]
    have h2 := Nat.shiftLeft_add_eq_or_of_lt hPlt hi
    rw [Nat.shiftLeft_eq, hH] at h2
    rw [← h2, hun]
  · have h3 := Nat.div_add_mod (lo * 2 ^ s) 18446744073709551616
    rw [hPe, hL] at h3
    rw [Nat.add_mul, Nat.mul_assoc, hH, ← h3, ← hun]
    omega

/-- What both digits make. -/
theorem div_fin {hi lo y s Y L un u1 u0 q1 n1 q3 n2 : Nat} (hlo : lo < 18446744073709551616) (hhi : hi < y) (hY : y * 2 ^ s = Y) (hsp : 18446744073709551616 * un + L = (18446744073709551616 * hi + lo) * 2 ^ s) (hL : 4294967296 * u1 + u0 = L)
    (hn1 : 4294967296 * un + u1 - q1 * Y = n1) (hd1 : DigitOf un u1 Y q1) (hd3 : DigitOf n1 u0 Y q3) (hn2 : 4294967296 * n1 + u0 - q3 * Y = n2) :
    IntKind.u64.wrap (IntKind.u64.wrap ((q1 : Int) * 4294967296) + (q3 : Int)) = (((18446744073709551616 * hi + lo) / y : Nat) : Int) ∧ (n2 : Int) / 2 ^ s = (((18446744073709551616 * hi + lo) % y : Nat) : Int) := by
  have hps : 0 < 2 ^ s := Nat.two_pow_pos s
  obtain ⟨e1, e2⟩ := two_digits (u0 := u0) hn1.symm hd1.2.1 hd3.2.1 hd3.2.2
  rw [hL, hsp, ← hY] at e1 e2
  obtain ⟨f1, f2⟩ := unshift (u := 18446744073709551616 * hi + lo) (y := y) hps
  rw [e1] at f1
  rw [e2, hY, hn2] at f2
  refine ⟨?_, ?_⟩
  · have hb : (18446744073709551616 * hi + lo) / y < 18446744073709551616 := by
      refine Nat.div_lt_of_lt_mul ?_
      have h1 : (hi + 1) * 18446744073709551616 ≤ y * 18446744073709551616 := Nat.mul_le_mul_right _ hhi
      omega
    rw [← f1] at hb ⊢
    simp only [IntKind.wrap_u64]
    omega
  · rw [← f2, Int.natCast_ediv, Int.natCast_pow]; rfl

set_option maxRecDepth 100000 in
set_option maxHeartbeats 1000000 in
theorem div64_more (hi lo y : Nat) (hlo : lo < 18446744073709551616) (hy : y < 9223372036854775808) (hy0 : 0 < y) (hhi : hi < y) (hh0 : 0 < hi) (w : World) :
    Calls Tryz.prog 161 #[.int .u64 hi, .int .u64 lo, .int .u64 y] w fun e w' => e = .returned (.tuple #[.int .u64 (((18446744073709551616 * hi + lo) / y : Nat) : Int), .int .u64 (((18446744073709551616 * hi + lo) % y : Nat) : Int)]) ∧ Below w.heap.size w w' := by
  have hyz : ¬ ((y : Int) = 0) := by omega
  have hyp : (0 : Int) < (y : Int) := by omega
  have hhz : ¬ ((hi : Int) = 0) := by omega
  have hle : ¬ ((y : Int) ≤ (hi : Int)) := by omega
  go_enter Tryz.func161, Tryz.ntmps161
  go_wp2_with fail
  refine (lz64_any (y : Int) w (by omega) (by omega)).mono ?_
  rintro e w' ⟨rfl, rfl⟩
  obtain ⟨s, hs⟩ : ∃ s : Nat, 64 - Go.Lib.bitLen y = s := ⟨_, rfl⟩
  have hsu := shift_up (y := y) (by omega) (by omega)
  rw [hs] at hsu
  have hbl : Go.Lib.bitLen y ≤ 63 := Go.Lib.bitLen_le y 63 (by omega) (by omega)
  have hs1 : 1 ≤ s := by omega
  have hs2 : s ≤ 63 := by
    have := (bitLen_spec y (by omega) (by omega)).2.2
    omega
  have hsi : (64 - (Go.Lib.bitLen (y : Int).toNat : Int)) = (s : Int) := by
    rw [Int.toNat_natCast]; omega
  rw [hsi]
  clear hbl hs hsi
  obtain ⟨Y, hY⟩ : ∃ Y : Nat, y * 2 ^ s = Y := ⟨_, rfl⟩
  obtain ⟨H, hH⟩ : ∃ H : Nat, hi * 2 ^ s = H := ⟨_, rfl⟩
  obtain ⟨L, hL⟩ : ∃ L : Nat, lo * 2 ^ s % 18446744073709551616 = L := ⟨_, rfl⟩
  obtain ⟨un, hun⟩ : ∃ un : Nat, H + lo / 2 ^ (64 - s) = un := ⟨_, rfl⟩
  obtain ⟨D, hdig, hsp⟩ := shift_facts hlo hhi hs1 hs2 hsu hY hH hL hun
  obtain ⟨y1, hy1⟩ : ∃ z, Y / 4294967296 = z := ⟨_, rfl⟩
  obtain ⟨y0, hy0'⟩ : ∃ z, Y % 4294967296 = z := ⟨_, rfl⟩
  obtain ⟨u1, hu1⟩ : ∃ z, L / 4294967296 = z := ⟨_, rfl⟩
  obtain ⟨u0, hu0⟩ : ∃ z, L % 4294967296 = z := ⟨_, rfl⟩
  rw [hY] at hsu
  have hHb : H < 18446744073709551616 := by
    have := Nat.le_add_right H (lo / 2 ^ (64 - s))
    rw [hun] at this
    exact Nat.lt_of_le_of_lt this (Nat.lt_trans hdig hsu.2)
  have hLb : L < 18446744073709551616 := by rw [← hL]; exact Nat.mod_lt _ (by omega)
  have E1 : IntKind.u64.wrap ((y : Int) * 2 ^ s) = (Y : Int) := by rw [← hY, ← cast_shl]; exact Mul64.wrapN _ (by omega)
  have E2 : (Y : Int) / 4294967296 = (y1 : Int) := by omega
  have E3 : bits .and .u64 (Y : Int) 4294967295 = (y0 : Int) := by rw [← hy0']; exact Mul64.maskN Y (by omega)
  have E4 : IntKind.u64.wrap ((hi : Int) * 2 ^ s) = (H : Int) := by rw [← hH, ← cast_shl]; exact Mul64.wrapN _ (by omega)
  have E5 : bits .or .u64 (H : Int) ((lo : Int) / 2 ^ (64 - s)) = (un : Int) := D
  have E6 : IntKind.u64.wrap ((lo : Int) * 2 ^ s) = (L : Int) := by rw [← hL, ← cast_shl]; exact Mul64.wrapM _
  have E7 : (L : Int) / 4294967296 = (u1 : Int) := by omega
  have E8 : bits .and .u64 (L : Int) 4294967295 = (u0 : Int) := by rw [← hu0]; exact Mul64.maskN L (by omega)
  have hun64 : un < 18446744073709551616 := Nat.lt_trans hdig hsu.2
  have hYe : 4294967296 * y1 + y0 = Y := by omega
  have hD1 : DigB un u1 y1 y0 := ⟨by omega, by omega, by omega, by omega, by omega⟩
  have hT1 := trial_start hD1
  obtain ⟨q, hq⟩ : ∃ z, un / y1 = z := ⟨_, rfl⟩
  obtain ⟨r, hr⟩ : ∃ z, un % y1 = z := ⟨_, rfl⟩
  rw [hq, hr] at hT1
  have hrl : r < 4294967296 := by rw [← hr]; exact Nat.lt_trans (Nat.mod_lt _ (by have := hD1.y1l; omega)) hD1.y1h
  have hql := trial_le hD1 hT1
  have E9 : IntKind.u64.wrap ((un : Int) / (y1 : Int)) = (q : Int) := by rw [← Int.natCast_ediv, hq]; exact Mul64.wrapN _ (by omega)
  have hqy : q * y1 + r = un := hT1.left
  have E10 : IntKind.u64.wrap ((q : Int) * (y1 : Int)) = ((q * y1 : Nat) : Int) := by rw [← Int.natCast_mul]; exact Mul64.wrapN _ (by omega)
  have E11 : IntKind.u64.wrap ((un : Int) - ((q * y1 : Nat) : Int)) = (r : Int) := by
    rw [show (un : Int) - ((q * y1 : Nat) : Int) = (r : Int) by omega]; exact Mul64.wrapN _ (by omega)
  rw [Int.natCast_mul] at E10 E11
  have hy1z : ¬ ((y1 : Int) = 0) := by have := hD1.y1l; omega
  have hu0b : u0 < 4294967296 := by omega
  have hLe : 4294967296 * u1 + u0 = L := by omega
  have HLE := hide hLe
  clear hLe
  have HD1 := hide hD1
  have HT1 := hide hT1
  have HSU := hide hsu
  have HSP := hide hsp
  have HYE := hide hYe
  have HY := hide hY
  have HDG := hide hdig
  clear hD1 hT1 hsu hsp hYe hdig hY hH hL hun hy1 hy0' hu1 hu0 hq hr hqy hyz hyp hhz hle D
  go_upto_block 0 with fail
  go_cut [15, 16] from 67 to 85 (fun a _ wx => (∃ q' : Nat, a = .int .u64 (q' : Int) ∧ DigitOf un u1 (4294967296 * y1 + y0) q') ∧ wx = w')
  case first =>
    have HRL := hide hrl
    clear E1 E2 E3 E4 E5 E6 E7 E8 E9 E10 E11 hql hrl
    have hu1b := HD1.out.u1h
    have hy0b := HD1.out.y0h
    have hy1b := HD1.out.y1h
    go_wp2_with fail
    go_loop [15, 16] (fun a b => ∃ q r : Nat, a = .int .u64 (q : Int) ∧ b = .int .u64 (r : Int) ∧ Trial un u1 y1 y0 q r ∧ r < 4294967296) (fun a _ => (RowKit.intOf a).toNat)
    case atStart => exact ⟨_, _, rfl, rfl, HT1.out, HRL.out⟩
    case round =>
      obtain ⟨q, r, rfl, rfl, hT, hrl⟩ := hrel
      have hql := trial_le HD1.out hT
      have hz := small_mul hql hy0b
      obtain ⟨z, hzz⟩ : ∃ z, q * y0 = z := ⟨_, rfl⟩
      have F1 : IntKind.u64.wrap ((q : Int) * (y0 : Int)) = (z : Int) := by rw [← Int.natCast_mul, hzz]; exact Mul64.wrapN _ (by omega)
      have F2 : IntKind.u64.wrap (4294967296 * (r : Int)) = 4294967296 * (r : Int) := by rw [show (4294967296 : Int) * (r : Int) = ((4294967296 * r : Nat) : Int) by omega]; exact Mul64.wrapN _ (by omega)
      have F3 : IntKind.u64.wrap (4294967296 * (r : Int) + (u1 : Int)) = 4294967296 * (r : Int) + (u1 : Int) := by rw [show (4294967296 : Int) * (r : Int) + (u1 : Int) = ((4294967296 * r + u1 : Nat) : Int) by omega]; exact Mul64.wrapN _ (by omega)
      have HT := hide hT
      have HZ := hide hzz
      clear hT hzz
      by_cases hgo : 4294967296 ≤ q ∨ 4294967296 * r + u1 < z
      · obtain ⟨hq1, hT2⟩ := trial_step HD1.out HT.out (by rw [HZ.out]; exact hgo)
        obtain ⟨p, hp⟩ : ∃ p, q - 1 = p := ⟨_, rfl⟩
        obtain ⟨r2, hr2⟩ : ∃ r2, r + y1 = r2 := ⟨_, rfl⟩
        rw [hp, hr2] at hT2
        have F4 : IntKind.u64.wrap ((q : Int) - 1) = (p : Int) := by rw [show (q : Int) - 1 = (p : Int) by omega]; exact Mul64.wrapN _ (by omega)
        have F5 : IntKind.u64.wrap ((r : Int) + (y1 : Int)) = (r2 : Int) := by rw [show (r : Int) + (y1 : Int) = (r2 : Int) by omega]; exact Mul64.wrapN _ (by omega)
        have HT2 := hide hT2
        have HP := hide hp
        have hpq : p < q := by omega
        have hpb : p ≤ 4294967296 := by omega
        clear hT2 hr2 hp
        by_cases hb : 4294967296 ≤ r2
        · have hb' : (4294967296 : Int) ≤ (r2 : Int) := by omega
          have HD := hide (show DigitOf un u1 (4294967296 * y1 + y0) p from ⟨by omega, trial_end HT2.out (.inr ⟨hpb, hb, hy0b⟩)⟩)
          rcases Nat.lt_or_ge q 4294967296 with hq | hq
          · have hq' : ¬ ((4294967296 : Int) ≤ (q : Int)) := by omega
            have hz' : 4294967296 * (r : Int) + (u1 : Int) < (z : Int) := by omega
            clear hgo
            go_wp2_with fail
            go_meet
            exact ⟨⟨p, rfl, HD.out⟩, rfl⟩
          · have hq' : (4294967296 : Int) ≤ (q : Int) := by omega
            clear hgo
            go_wp2_with fail
            go_meet
            exact ⟨⟨p, rfl, HD.out⟩, rfl⟩
        · have hb' : ¬ ((4294967296 : Int) ≤ (r2 : Int)) := by omega
          rcases Nat.lt_or_ge q 4294967296 with hq | hq
          · have hq' : ¬ ((4294967296 : Int) ≤ (q : Int)) := by omega
            have hz' : 4294967296 * (r : Int) + (u1 : Int) < (z : Int) := by omega
            clear hgo
            go_wp2_with fail
            go_round
            case rel => exact ⟨p, r2, rfl, rfl, HT2.out, by omega⟩
            case measure => simp [RowKit.intOf]; omega
          · have hq' : (4294967296 : Int) ≤ (q : Int) := by omega
            clear hgo
            go_wp2_with fail
            go_round
            case rel => exact ⟨p, r2, rfl, rfl, HT2.out, by omega⟩
            case measure => simp [RowKit.intOf]; omega
      · have hq' : ¬ ((4294967296 : Int) ≤ (q : Int)) := by omega
        have hz' : ¬ (4294967296 * (r : Int) + (u1 : Int) < (z : Int)) := by omega
        have HD := hide (show DigitOf un u1 (4294967296 * y1 + y0) q from ⟨by omega, trial_end HT.out (.inl ⟨by omega, by rw [HZ.out]; omega⟩)⟩)
        clear hgo
        go_wp2_with fail
        go_meet
        exact ⟨⟨q, rfl, HD.out⟩, rfl⟩
  case rest =>
    obtain ⟨⟨q1, rfl, hd1⟩, rfl⟩ := hcut
    have HDD1 := hide hd1
    clear hd1 E1 E2 E3 E4 E5 E6 E7 E8 E9 E10 E11
    rw [HYE.out] at HDD1
    obtain ⟨n1, hn1⟩ : ∃ z, 4294967296 * un + u1 - q1 * Y = z := ⟨_, rfl⟩
    have hn1Y : n1 < Y := by rw [← hn1]; exact HDD1.out.2.2
    have G1 := digit_wrap HDD1.out HSU.out.2 hn1
    have hn1b : n1 < 18446744073709551616 := Nat.lt_trans hn1Y HSU.out.2
    have hD2 : DigB n1 u0 y1 y0 := ⟨HD1.out.y1l, HD1.out.y1h, HD1.out.y0h, hu0b, by rw [HYE.out]; exact hn1Y⟩
    have hT3 := trial_start hD2
    obtain ⟨q2, hq2⟩ : ∃ z, n1 / y1 = z := ⟨_, rfl⟩
    obtain ⟨r2, hr2⟩ : ∃ z, n1 % y1 = z := ⟨_, rfl⟩
    rw [hq2, hr2] at hT3
    have hrl2 : r2 < 4294967296 := by rw [← hr2]; exact Nat.lt_trans (Nat.mod_lt _ (by have := hD2.y1l; omega)) hD2.y1h
    have hql2 := trial_le hD2 hT3
    have G2 : IntKind.u64.wrap ((n1 : Int) / (y1 : Int)) = (q2 : Int) := by rw [← Int.natCast_ediv, hq2]; exact Mul64.wrapN _ (by omega)
    have hqy2 : q2 * y1 + r2 = n1 := hT3.left
    have G3 : IntKind.u64.wrap ((q2 : Int) * (y1 : Int)) = ((q2 * y1 : Nat) : Int) := by rw [← Int.natCast_mul]; exact Mul64.wrapN _ (by omega)
    have G4 : IntKind.u64.wrap ((n1 : Int) - ((q2 * y1 : Nat) : Int)) = (r2 : Int) := by
      rw [show (n1 : Int) - ((q2 * y1 : Nat) : Int) = (r2 : Int) by omega]; exact Mul64.wrapN _ (by omega)
    rw [Int.natCast_mul] at G3 G4
    have HD2 := hide hD2
    have HT3 := hide hT3
    have HN1 := hide hn1
    clear hD2 hT3 hn1 hn1Y hq2 hr2 hqy2
    go_upto_block 2 with fail
    go_cut [18, 16] from 102 to 120 (fun a _ wx => (∃ q' : Nat, a = .int .u64 (q' : Int) ∧ DigitOf n1 u0 (4294967296 * y1 + y0) q') ∧ wx = wc)
    case first =>
      have HRL := hide hrl2
      clear G1 G2 G3 G4 hql2 hrl2
      have hu1b := HD2.out.u1h
      have hy0b := HD2.out.y0h
      have hy1b := HD2.out.y1h
      go_wp2_with fail
      go_loop [18, 16] (fun a b => ∃ q r : Nat, a = .int .u64 (q : Int) ∧ b = .int .u64 (r : Int) ∧ Trial n1 u0 y1 y0 q r ∧ r < 4294967296) (fun a _ => (RowKit.intOf a).toNat)
      case atStart => exact ⟨_, _, rfl, rfl, HT3.out, HRL.out⟩
      case round =>
        obtain ⟨q, r, rfl, rfl, hT, hrl⟩ := hrel
        have hql := trial_le HD2.out hT
        have hz := small_mul hql hy0b
        obtain ⟨z, hzz⟩ : ∃ z, q * y0 = z := ⟨_, rfl⟩
        have F1 : IntKind.u64.wrap ((q : Int) * (y0 : Int)) = (z : Int) := by rw [← Int.natCast_mul, hzz]; exact Mul64.wrapN _ (by omega)
        have F2 : IntKind.u64.wrap (4294967296 * (r : Int)) = 4294967296 * (r : Int) := by rw [show (4294967296 : Int) * (r : Int) = ((4294967296 * r : Nat) : Int) by omega]; exact Mul64.wrapN _ (by omega)
        have F3 : IntKind.u64.wrap (4294967296 * (r : Int) + (u0 : Int)) = 4294967296 * (r : Int) + (u0 : Int) := by rw [show (4294967296 : Int) * (r : Int) + (u0 : Int) = ((4294967296 * r + u0 : Nat) : Int) by omega]; exact Mul64.wrapN _ (by omega)
        have HT := hide hT
        have HZ := hide hzz
        clear hT hzz
        by_cases hgo : 4294967296 ≤ q ∨ 4294967296 * r + u0 < z
        · obtain ⟨hq1, hT2⟩ := trial_step HD2.out HT.out (by rw [HZ.out]; exact hgo)
          obtain ⟨p, hp⟩ : ∃ p, q - 1 = p := ⟨_, rfl⟩
          obtain ⟨r2, hr2⟩ : ∃ r2, r + y1 = r2 := ⟨_, rfl⟩
          rw [hp, hr2] at hT2
          have F4 : IntKind.u64.wrap ((q : Int) - 1) = (p : Int) := by rw [show (q : Int) - 1 = (p : Int) by omega]; exact Mul64.wrapN _ (by omega)
          have F5 : IntKind.u64.wrap ((r : Int) + (y1 : Int)) = (r2 : Int) := by rw [show (r : Int) + (y1 : Int) = (r2 : Int) by omega]; exact Mul64.wrapN _ (by omega)
          have HT2 := hide hT2
          have HP := hide hp
          have hpq : p < q := by omega
          have hpb : p ≤ 4294967296 := by omega
          clear hT2 hr2 hp
          by_cases hb : 4294967296 ≤ r2
          · have hb' : (4294967296 : Int) ≤ (r2 : Int) := by omega
            have HD := hide (show DigitOf n1 u0 (4294967296 * y1 + y0) p from ⟨by omega, trial_end HT2.out (.inr ⟨hpb, hb, hy0b⟩)⟩)
            rcases Nat.lt_or_ge q 4294967296 with hq | hq
            · have hq' : ¬ ((4294967296 : Int) ≤ (q : Int)) := by omega
              have hz' : 4294967296 * (r : Int) + (u0 : Int) < (z : Int) := by omega
              clear hgo
              go_wp2_with fail
              go_meet
              exact ⟨⟨p, rfl, HD.out⟩, rfl⟩
            · have hq' : (4294967296 : Int) ≤ (q : Int) := by omega
              clear hgo
              go_wp2_with fail
              go_meet
              exact ⟨⟨p, rfl, HD.out⟩, rfl⟩
          · have hb' : ¬ ((4294967296 : Int) ≤ (r2 : Int)) := by omega
            rcases Nat.lt_or_ge q 4294967296 with hq | hq
            · have hq' : ¬ ((4294967296 : Int) ≤ (q : Int)) := by omega
              have hz' : 4294967296 * (r : Int) + (u0 : Int) < (z : Int) := by omega
              clear hgo
              go_wp2_with fail
              go_round
              case rel => exact ⟨p, r2, rfl, rfl, HT2.out, by omega⟩
              case measure => simp [RowKit.intOf]; omega
            · have hq' : (4294967296 : Int) ≤ (q : Int) := by omega
              clear hgo
              go_wp2_with fail
              go_round
              case rel => exact ⟨p, r2, rfl, rfl, HT2.out, by omega⟩
              case measure => simp [RowKit.intOf]; omega
        · have hq' : ¬ ((4294967296 : Int) ≤ (q : Int)) := by omega
          have hz' : ¬ (4294967296 * (r : Int) + (u0 : Int) < (z : Int)) := by omega
          have HD := hide (show DigitOf n1 u0 (4294967296 * y1 + y0) q from ⟨by omega, trial_end HT.out (.inl ⟨by omega, by rw [HZ.out]; omega⟩)⟩)
          clear hgo
          go_wp2_with fail
          go_meet
          exact ⟨⟨q, rfl, HD.out⟩, rfl⟩
    case rest =>
      obtain ⟨⟨q3, rfl, hd3⟩, rfl⟩ := hcut
      rw [HYE.out] at hd3
      obtain ⟨n2, hn2⟩ : ∃ z, 4294967296 * n1 + u0 - q3 * Y = z := ⟨_, rfl⟩
      have K1 := digit_wrap hd3 HSU.out.2 hn2
      have HD3 := hide hd3
      have HN2 := hide hn2
      clear hd3 hn2 G1 G2 G3 G4
      have hfin := div_fin hlo hhi HY.out HSP.out HLE.out HN1.out HDD1.out HD3.out HN2.out
      have HFIN := hide hfin
      clear hfin
      go_wp2_with fail
      go_ret2
      refine ⟨?_, Below.refl _ _⟩
      rw [← HFIN.out.1, ← HFIN.out.2]
      rfl
/-- The library's division of two words by one. -/
theorem div64_any (hi lo y : Nat) (hlo : lo < 18446744073709551616) (hy : y < 9223372036854775808) (hy0 : 0 < y) (hhi : hi < y) (w : World) :
    Calls Tryz.prog 161 #[.int .u64 hi, .int .u64 lo, .int .u64 y] w fun e w' => e = .returned (.tuple #[.int .u64 (((18446744073709551616 * hi + lo) / y : Nat) : Int), .int .u64 (((18446744073709551616 * hi + lo) % y : Nat) : Int)]) ∧ Below w.heap.size w w' := by
  rcases Nat.eq_zero_or_pos hi with h | h
  · subst h
    have := div64_zero lo y hlo hy hy0 w
    rw [Nat.mul_zero, Nat.zero_add]
    exact this
  · exact div64_more hi lo y hlo hy hy0 hhi h w
end Go.Proofs.YtmfohnchnbgbaaaGreatDoor

/- A product divided, to the nearest one: the program's. -/
namespace Go.Proofs.YtmfohnchnbgbaaaGreatDoor
open Go.RowKit

/-- Up to the nearest one, or the even one. -/
def upN (q r c : Nat) : Nat := if c - r < r ∨ (r = c - r ∧ q % 2 = 1) then q + 1 else q
/-- a times b by c; what is amiss. -/
def evN (a b c : Nat) : Nat := upN (a * b / c) (a * b % c) c
def evE (a b c : Nat) : Int := if evN a b c ≤ 4000000000000000000 then 0 else 5
def evQ (a b c : Nat) : Nat := if evN a b c ≤ 4000000000000000000 then evN a b c else 0
theorem upN_ge (q r c : Nat) : q ≤ upN q r c ∧ upN q r c ≤ q + 1 := by unfold upN; split <;> omega

def upB (q r c : Nat) : Bool := decide (c - r < r ∨ (r = c - r ∧ q % 2 = 1))
set_option maxRecDepth 100000 in
theorem up1_any (q r c : Nat) (hq : q < 18446744073709551616) (hr : r < c) (hc : c < 9223372036854775808) (w : World) :
    Calls Tryz.prog 159 #[.int .u64 q, .int .u64 r, .int .u64 c] w fun e w' => e = .returned (.bool (upB q r c)) ∧ w' = w := by
  obtain ⟨d, hd⟩ : ∃ d, c - r = d := ⟨_, rfl⟩
  have E1 : IntKind.u64.wrap ((c : Int) - (r : Int)) = (d : Int) := by rw [show (c : Int) - (r : Int) = (d : Int) by omega]; exact Mul64.wrapN _ (by omega)
  have HD := hide hd
  clear hd
  by_cases h1 : d < r
  · have h1' : (d : Int) < (r : Int) := by omega
    have HU := hide (show upB q r c = true by unfold upB; rw [HD.out]; simp; omega)
    go_enter Tryz.func159, Tryz.ntmps159
    go_wp2_with fail
    go_ret
    exact ⟨ret_bool HU.out.symm, rfl⟩
  · have h1' : ¬ (d : Int) < (r : Int) := by omega
    by_cases h2 : r = d
    · subst h2
      have h2' : ((r : Int) == (r : Int)) = true := by simp
      rcases Nat.mod_two_eq_zero_or_one q with h3 | h3
      · have h3' : (q : Int) % 2 = 0 := by omega
        have HU := hide (show upB q r c = false by unfold upB; rw [HD.out]; simp; omega)
        clear h3
        go_enter Tryz.func159, Tryz.ntmps159
        go_wp2_with fail
        go_ret
        exact ⟨ret_bool HU.out.symm, rfl⟩
      · have h3' : (q : Int) % 2 = 1 := by omega
        have HU := hide (show upB q r c = true by unfold upB; rw [HD.out]; simp; omega)
        clear h3
        go_enter Tryz.func159, Tryz.ntmps159
        go_wp2_with fail
        go_ret
        exact ⟨ret_bool HU.out.symm, rfl⟩
    · have h2' : ((r : Int) == (d : Int)) = false := by simp; omega
      have HU := hide (show upB q r c = false by unfold upB; rw [HD.out]; simp; omega)
      go_enter Tryz.func159, Tryz.ntmps159
      go_wp2_with fail
      go_ret
      exact ⟨ret_bool HU.out.symm, rfl⟩

set_option maxRecDepth 100000 in
set_option maxHeartbeats 1000000 in
theorem of_any_Lad (a b c : Nat) (ha : a ≤ 9223372036854775807) (hb : b ≤ 9223372036854775807) (hc : c ≤ 9223372036854775807) (hc0 : 0 < c) (w : World) :
    Calls Tryz.prog 134 #[.agg #[.func (.func 159) #[] #[]], .int .i64 a, .int .i64 b, .int .i64 c] w
      fun e w' => e = .returned (.tuple #[.int .i64 (evQ a b c : Nat), .int .i64 (evE a b c)]) ∧ Below w.heap.size w w' := by
  have ha0 : ¬ (a : Int) < 0 := by omega
  have hb0 : ¬ (b : Int) < 0 := by omega
  have hcz : ¬ (c : Int) < 0 := by omega
  have hcy : ((c : Int) == 0) = false := by simp; omega
  have C1 : IntKind.u64.wrap (a : Int) = (a : Int) := Mul64.wrapN _ (by omega)
  have C2 : IntKind.u64.wrap (b : Int) = (b : Int) := Mul64.wrapN _ (by omega)
  have C3 : IntKind.u64.wrap (c : Int) = (c : Int) := Mul64.wrapN _ (by omega)
  go_enter Tryz.func134, Tryz.ntmps134
  go_wp2_with fail
  refine (mul64_any a b (by omega) (by omega) _).mono ?_
  rintro e w1 ⟨rfl, rfl⟩
  obtain ⟨p, hp⟩ : ∃ p, a * b = p := ⟨_, rfl⟩
  rw [hp]
  obtain ⟨hi, hhi⟩ : ∃ z, p / 18446744073709551616 = z := ⟨_, rfl⟩
  obtain ⟨lo, hlo⟩ : ∃ z, p % 18446744073709551616 = z := ⟨_, rfl⟩
  rw [hhi, hlo]
  have hpe : 18446744073709551616 * hi + lo = p := by omega
  have hlob : lo < 18446744073709551616 := by omega
  have HPE := hide hpe
  have HP := hide hp
  clear hhi hlo hpe hp
  by_cases hbig : c ≤ hi
  · have hbig' : (c : Int) ≤ (hi : Int) := by omega
    have HE := hide (show evE a b c = 5 ∧ evQ a b c = 0 by
      have h1 : 18446744073709551616 ≤ a * b / c := by
        rw [HP.out, ← HPE.out]
        refine (Nat.le_div_iff_mul_le hc0).2 ?_
        have : 18446744073709551616 * c ≤ 18446744073709551616 * hi := Nat.mul_le_mul_left _ hbig
        omega
      have h2 := (upN_ge (a * b / c) (a * b % c) c).1
      have h3 : ¬ evN a b c ≤ 4000000000000000000 := by unfold evN; omega
      exact ⟨by rw [evE, if_neg h3], by rw [evQ, if_neg h3]⟩)
    go_wp2_with fail
    go_ret2
    rw [HE.out.1, HE.out.2]
    exact ⟨rfl, (Below.refl _ _).alloc (Nat.le_refl _) _⟩
  · have hbig' : ¬ (c : Int) ≤ (hi : Int) := by omega
    go_wp2_with fail
    refine (div64_any hi lo c hlob (by omega) hc0 (by omega) _).mono ?_
    rintro e w1 ⟨rfl, hb1⟩
    rw [HPE.out]
    have K0 : w1.cell? ⟨w.heap.size, 0, none⟩ = some (.func (.func 159) #[] #[]) := kept hb1 (by simp)
    have HB1 := hide (chain1 hb1)
    obtain ⟨q, hq⟩ : ∃ z, p / c = z := ⟨_, rfl⟩
    obtain ⟨r, hr⟩ : ∃ z, p % c = z := ⟨_, rfl⟩
    rw [hq, hr]
    have hrc : r < c := by rw [← hr]; exact Nat.mod_lt _ hc0
    have hqb : q < 18446744073709551616 := by
      rw [← hq, ← HPE.out]
      refine Nat.div_lt_of_lt_mul ?_
      have : (hi + 1) * 18446744073709551616 ≤ c * 18446744073709551616 := Nat.mul_le_mul_right _ (by omega)
      omega
    have hkl := block_lt_of_cell K0
    have HN := hide (show evN a b c = upN q r c by unfold evN; rw [HP.out, hq, hr])
    clear hb1 hq hr
    by_cases hq4 : 4000000000000000000 < q
    · have hq4' : (4000000000000000000 : Int) < (q : Int) := by omega
      have HE := hide (show evE a b c = 5 ∧ evQ a b c = 0 by
        have h2 := (upN_ge q r c).1
        have h3 : ¬ evN a b c ≤ 4000000000000000000 := by rw [HN.out]; omega
        exact ⟨by rw [evE, if_neg h3], by rw [evQ, if_neg h3]⟩)
      go_wp2_with fail
      go_ret2
      rw [HE.out.1, HE.out.2]
      exact ⟨rfl, HB1.out⟩
    · have hq4' : ¬ (4000000000000000000 : Int) < (q : Int) := by omega
      go_wp2_with fail
      refine (up1_any q r c hqb hrc (by omega) _).mono ?_
      rintro e w2 ⟨rfl, rfl⟩
      cases hu : upB q r c
      · have hun : upN q r c = q := by unfold upN; rw [if_neg (of_decide_eq_false hu)]
        have HE := hide (show evE a b c = 0 ∧ evQ a b c = q by
          have h3 : evN a b c ≤ 4000000000000000000 := by rw [HN.out, hun]; omega
          exact ⟨by rw [evE, if_pos h3], by rw [evQ, if_pos h3, HN.out, hun]⟩)
        clear hu hun
        go_wp2_with fail
        go_ret2
        rw [HE.out.1, HE.out.2]
        exact ⟨rfl, HB1.out⟩
      · have hun : upN q r c = q + 1 := by unfold upN; rw [if_pos (of_decide_eq_true hu)]
        obtain ⟨q2, hq2⟩ : ∃ z, q + 1 = z := ⟨_, rfl⟩
        have F1 : IntKind.u64.wrap ((q : Int) + 1) = (q2 : Int) := by rw [show (q : Int) + 1 = (q2 : Int) by omega]; exact Mul64.wrapN _ (by omega)
        rw [hq2] at hun
        have HU := hide hun
        have hq2b : q2 ≤ 4000000000000000001 := by omega
        clear hu hun hq2
        by_cases hq5 : 4000000000000000000 < q2
        · have hq5' : (4000000000000000000 : Int) < (q2 : Int) := by omega
          have HE := hide (show evE a b c = 5 ∧ evQ a b c = 0 by
            have h3 : ¬ evN a b c ≤ 4000000000000000000 := by rw [HN.out, HU.out]; omega
            exact ⟨by rw [evE, if_neg h3], by rw [evQ, if_neg h3]⟩)
          go_wp2_with fail
          go_ret2
          rw [HE.out.1, HE.out.2]
          exact ⟨rfl, HB1.out⟩
        · have hq5' : ¬ (4000000000000000000 : Int) < (q2 : Int) := by omega
          have HE := hide (show evE a b c = 0 ∧ evQ a b c = q2 by
            have h3 : evN a b c ≤ 4000000000000000000 := by rw [HN.out, HU.out]; omega
            exact ⟨by rw [evE, if_pos h3], by rw [evQ, if_pos h3, HN.out, HU.out]⟩)
          go_wp2_with fail
          go_ret2
          rw [HE.out.1, HE.out.2]
          exact ⟨rfl, HB1.out⟩

theorem even0_any (w : World) : Calls Tryz.prog 133 #[] w fun e w' => e = .returned (.agg #[.func (.func 159) #[] #[]]) ∧ Below w.heap.size w w' := by
  have hst : (store ⟨w.heap.size, 0, none⟩ (.func (.func 159) #[] #[])).run Tryz.prog (w.alloc (.cells #[.nilFunc] 241)) = .ok () ((w.alloc (.cells #[.nilFunc] 241)).setCell ⟨w.heap.size, 0, none⟩ (.func (.func 159) #[] #[])) := by
    rw [run_store Tryz.prog _ ⟨w.heap.size, 0, none⟩ _ _ (by rfl)]
    simp
  go_enter Tryz.func133, Tryz.ntmps133
  go_wp2_with fail
  exact ret_row rfl rfl rfl (Blk.new w 241 #[.func (.func 159) #[] #[]]) Tryz.underlying241 rfl (by kernel_rfl) ⟨rfl, (Below.refl _ _).alloc (Nat.le_refl _) _⟩
theorem even_any (a b c : Nat) (ha : a ≤ 9223372036854775807) (hb : b ≤ 9223372036854775807) (hc : c ≤ 9223372036854775807) (hc0 : 0 < c) (w : World) :
    Calls Tryz.prog 80 #[.int .i64 a, .int .i64 b, .int .i64 c] w
      fun e w' => e = .returned (.tuple #[.int .i64 (evQ a b c : Nat), .int .i64 (evE a b c)]) ∧ Below w.heap.size w w' := by
  obtain ⟨q, hq⟩ : ∃ z, evQ a b c = z := ⟨_, rfl⟩
  obtain ⟨k, hk⟩ : ∃ z, evE a b c = z := ⟨_, rfl⟩
  have HQ := hide hq
  have HK := hide hk
  rw [hq, hk]
  clear hq hk
  go_enter Tryz.func80, Tryz.ntmps80
  go_wp2_with fail
  refine (even0_any w).mono ?_
  rintro e w1 ⟨rfl, hb1⟩
  have HB1 := hide hb1
  clear hb1
  go_wp2_with fail
  refine (of_any_Lad a b c ha hb hc hc0 _).mono ?_
  rintro e w2 ⟨rfl, hb2⟩
  rw [HQ.out, HK.out]
  have HB2 := hide (chain HB1.out hb2)
  clear hb2
  go_wp2_with fail
  go_ret2
  exact ⟨rfl, HB2.out⟩
end Go.Proofs.YtmfohnchnbgbaaaGreatDoor

/- What a year of a cover costs, and of covers. -/
namespace Go.Proofs.YtmfohnchnbgbaaaGreatDoor
open Go.RowKit

theorem bp_any (m b : Nat) (hm : m ≤ 9223372036854775807) (hb : b ≤ 9223372036854775807) (w : World) :
    Calls Tryz.prog 66 #[.int .i64 m, .int .i64 b] w
      fun e w' => e = .returned (.tuple #[.int .i64 (evQ m b 10000 : Nat), .int .i64 (evE m b 10000)]) ∧ Below w.heap.size w w' := by
  obtain ⟨q, hq⟩ : ∃ z, evQ m b 10000 = z := ⟨_, rfl⟩
  obtain ⟨k, hk⟩ : ∃ z, evE m b 10000 = z := ⟨_, rfl⟩
  have HC := hide (even_any m b 10000 hm hb (by omega) (by omega) w)
  rw [hq, hk] at HC
  rw [hq, hk]
  clear hq hk
  go_enter Tryz.func66, Tryz.ntmps66
  go_wp2_with fail
  refine HC.out.mono ?_
  rintro e w1 ⟨rfl, hb1⟩
  have H1 := hide hb1
  clear hb1
  go_wp2_with fail
  go_ret2
  exact ⟨rfl, H1.out⟩

def sliceLen : Value → Nat | .slice _ n _ => n | _ => 0
def AtNext (age : Int) (l : List Bd) (w : World) (a' : Act) (w' : World) : Prop :=
  w' = w ∧ ∃ (A' : Option Addr) (c' : Nat) (r : List Bd) (u5 u6 u7 u8 u9 u10 u11 u12 u13 u14 u15 u16 u17 u18 u19 : Value), a' = { tmps := #[.slice A' r.length c', .int .i64 age, undef, undef, .int .i64 0, u5, u6, u7, u8, u9, u10, u11, u12, u13, u14, u15, u16, u17, u18, u19], defers := [] } ∧
    bandI age r = bandI age l ∧ r.length ≤ l.length ∧ r.length ≤ c' ∧ Sl w w.heap.size 2 A' (r.map encBd)
theorem cutBd {w : World} {B b off : Nat} {x : Bd} {r : List Bd} (c : Nat) (h : Sl w B 2 (some ⟨b, off, none⟩) ((x :: r).map encBd)) (hc : (x :: r).length ≤ c) :
    if c = 1 then Sl w B 2 (some ⟨b, off, none⟩) (r.map encBd) else Sl w B 2 (some ⟨b, off + 2, none⟩) (r.map encBd) := by
  have hh := h.cut (k := 1) (cap := c) (by simpa using hc)
  by_cases h1 : c = 1
  · rw [if_pos h1]
    rw [if_pos h1] at hh
    simpa using hh
  · rw [if_neg h1]
    rw [if_neg h1] at hh
    simpa [Addr.add] using hh

set_option maxHeartbeats 400000 in
theorem band_any (A : Option Addr) (c : Nat) (l : List Bd) (age : Int) (w : World) (hl : Sl w w.heap.size 2 A (l.map encBd)) (hm : l.length ≤ 9223372036854775807) (hc : l.length ≤ c) :
    Calls Tryz.prog 129 #[.slice A l.length c, .int .i64 age] w fun e w' => e = .returned (.int .i64 (bandI age l)) ∧ Below w.heap.size w w' := by
  go_enter Tryz.func129, Tryz.ntmps129
  go_wp2
  refine wp_scope_jumps 0 (AtNext age l w) (fun a' _ => sliceLen (a'.tmps.getD 0 undef)) rfl ?_ ?_
  · go_wp2
    go_step3
    cases l with
    | nil =>
      go_wp2
      simp only [Exit.jump]
      go_ret
      exact ⟨rfl, Below.refl _ _⟩
    | cons x r =>
      obtain ⟨b, off, rfl, hbl, hc0, hc1⟩ := hl.bd (k := 0) (u := x.1) (p := x.2) rfl
      simp only [Nat.zero_mul, Nat.add_zero] at hc0 hc1
      have hne : ((r.length : Int) + 1 == 0) = false := by simp; omega
      have hcut := @cutBd _ _ _ _ _ _ c hl hc
      have HC := hide hcut
      clear hcut
      simp only [List.length_cons] at hm hc
      by_cases ha : x.1 < age
      · go_wp2
        all_goals
          go_step3
          exact ⟨rfl, rfl, _, _, r, _, _, _, _, _, _, _, _, _, _, _, _, _, _, _, rfl, by rw [bandI, if_pos ha], by simp, by omega, by have h := HC.out; first | (rw [if_pos (by omega)] at h; exact h) | (rw [if_neg (by omega)] at h; exact h)⟩
      · go_wp2
        simp only [Exit.jump]
        go_ret
        exact ⟨by rw [bandI, if_neg (by omega)]; rfl, Below.refl _ _⟩
  · rintro a' w' ⟨rfl, A', c', r, u5, u6, u7, u8, u9, u10, u11, u12, u13, u14, u15, u16, u17, u18, u19, rfl, hs, hlen, hc', hl'⟩
    cases r with
    | nil =>
      go_wp2
      simp only [Exit.jump]
      go_ret
      exact ⟨by rw [← hs]; rfl, Below.refl _ _⟩
    | cons x r =>
      obtain ⟨b, off, rfl, hbl, hc0, hc1⟩ := hl'.bd (k := 0) (u := x.1) (p := x.2) rfl
      simp only [Nat.zero_mul, Nat.add_zero] at hc0 hc1
      have hne : ((r.length : Int) + 1 == 0) = false := by simp; omega
      have hcut := @cutBd _ _ _ _ _ _ c' hl' hc'
      have HC := hide hcut
      have HS := hide hs
      clear hcut hs
      simp only [List.length_cons] at hlen hc'
      by_cases ha : x.1 < age
      · go_wp2
        all_goals
          go_step3
          refine ⟨rfl, ⟨rfl, _, _, r, _, _, _, _, _, _, _, _, _, _, _, _, _, _, _, rfl, by rw [← HS.out, bandI, if_pos ha], by omega, by omega, by have h := HC.out; first | (rw [if_pos (by omega)] at h; exact h) | (rw [if_neg (by omega)] at h; exact h)⟩, Nat.lt_succ_self r.length⟩
      · go_wp2
        simp only [Exit.jump]
        go_ret
        exact ⟨by rw [← HS.out, bandI, if_neg (by omega)]; rfl, Below.refl _ _⟩
theorem bandI_bd {age : Int} : ∀ {l : List Bd} {last : Int}, rise last l = true → 0 ≤ bandI age l ∧ bandI age l ≤ 100000
  | [], _, _ => by simp [bandI]
  | x :: r, last, h => by
    rw [rise] at h
    split at h
    · cases h
    · rw [bandI]
      split
      · exact bandI_bd h
      · omega

/-- A chain of factors, each in parts of 10000. -/
def chainN : Nat → List Nat → Option Nat
  | m, [] => some m
  | m, b :: r => if evE m b 10000 = 0 then chainN (evQ m b 10000) r else none
def facsN (v : Ver) (k a z : Int) (c : Cv) : List Nat := [(([v.b0, v.b1, v.b2, v.b3][k.toNat]?).getD 0).toNat, (bandI a v.age).toNat, ((v.zone[z.toNat]?).getD 0).toNat, ((v.peril[c.p.toNat]?).getD 0).toNat, c.sh.toNat]
def eOf : Option Nat → Int
  | none => 5
  | some _ => 0
def vOf (mn : Int) : Option Nat → Int
  | none => 0
  | some m => max (m : Int) mn
def oneE (v : Ver) (k vl a z : Int) (c : Cv) : Int :=
  if versionB v && (riskB k vl a z && coverB c) then (if (v.zone.length : Int) ≤ z then 7 else eOf (chainN vl.toNat (facsN v k a z c))) else 1
def oneV (v : Ver) (k vl a z : Int) (c : Cv) : Int :=
  if versionB v && (riskB k vl a z && coverB c) then (if (v.zone.length : Int) ≤ z then 0 else vOf v.mn (chainN vl.toNat (facsN v k a z c))) else 0
theorem oneE_yes {v : Ver} {k vl a z : Int} {c : Cv} (h1 : versionB v = true) (h2 : riskB k vl a z = true) (h3 : coverB c = true) (h4 : ¬(v.zone.length : Int) ≤ z) : oneE v k vl a z c = eOf (chainN vl.toNat (facsN v k a z c)) ∧ oneV v k vl a z c = vOf v.mn (chainN vl.toNat (facsN v k a z c)) := by
  simp only [oneE, oneV, h1, h2, h3, h4, Bool.and_true, if_true, if_false, and_self]
theorem risk_is {k v a z : Int} {b : Bool} (h : riskB k v a z = b) (w : World) :
    Calls Tryz.prog 118 #[.agg #[.int .i64 k, .int .i64 v, .int .i64 a, .int .i64 z]] w fun e w' => e = .returned (.bool b) ∧ Below w.heap.size w w' := by
  subst h; exact risk_any k v a z w
theorem version_is {x : Vw} {b : Bool} (h : versionB x.v = b) (w : World) (hs : VOK w x) :
    Calls Tryz.prog 128 #[.agg #[.int .i64 x.f, .int .i64 x.b0, .int .i64 x.b1, .int .i64 x.b2, .int .i64 x.b3, .slice x.aA x.age.length x.aC, .slice x.zA x.zone.length x.zC, .slice x.pA x.peril.length x.pC, .int .i64 x.mn]] w fun e w' => e = .returned (.bool b) ∧ Below w.heap.size w w' := by
  subst h; exact version_any x w hs
theorem evQ_le4 (a b c : Nat) : evQ a b c ≤ 4000000000000000000 := by unfold evQ; split <;> omega
theorem facB_get {l : List Int} {k : Nat} {n : Int} (h : facB l = true) (hn : l[k]? = some n) : 0 ≤ n ∧ n ≤ 100000 := by
  rw [facB, List.all_eq_true] at h
  simpa using h n (List.mem_of_getElem? hn)
theorem evE_or (a b c : Nat) : evE a b c = 0 ∨ evE a b c = 5 := by unfold evE; split <;> simp
def OneP (e v : Int) (w : World) (en : Ending) (w' : World) : Prop := en = .returned (.tuple #[.int .i64 v, .int .i64 e]) ∧ Below w.heap.size w w'

set_option maxRecDepth 100000 in
set_option maxHeartbeats 4000000 in
theorem one_any (x : Vw) (k vl a z : Int) (c : Cv) (w : World) (hs : VOK w x) (hc : okCv c) :
    Calls Tryz.prog 77 #[.agg #[.int .i64 x.f, .int .i64 x.b0, .int .i64 x.b1, .int .i64 x.b2, .int .i64 x.b3, .slice x.aA x.age.length x.aC, .slice x.zA x.zone.length x.zC, .slice x.pA x.peril.length x.pC, .int .i64 x.mn], .agg #[.int .i64 k, .int .i64 vl, .int .i64 a, .int .i64 z], .agg #[.int .i64 c.p, .int .i64 c.lim, .int .i64 c.agg, .int .i64 c.ded, .int .i64 c.sh]] w (OneP (oneE x.v k vl a z c) (oneV x.v k vl a z c) w) := by
  obtain ⟨E, hE⟩ : ∃ E, oneE x.v k vl a z c = E := ⟨_, rfl⟩
  obtain ⟨V, hV⟩ : ∃ V, oneV x.v k vl a z c = V := ⟨_, rfl⟩
  have HE := hide hE
  have HV := hide hV
  rw [hE, hV]
  clear hE hV
  have HS := hide hs
  have HC := hide hc
  clear hs hc
  obtain ⟨w3, hw3⟩ : ∃ W, ((w.alloc (.cells (boxV x) 114)).alloc (.cells #[.int .i64 k, .int .i64 vl, .int .i64 a, .int .i64 z] 58)).alloc (.cells #[.int .i64 c.p, .int .i64 c.lim, .int .i64 c.agg, .int .i64 c.ded, .int .i64 c.sh] 41) = W := ⟨_, rfl⟩
  have hB0 : Blk w3 w.heap.size 114 (boxV x) := by rw [← hw3]; exact ((Blk.new _ _ _).alloc _).alloc _
  have hB1 : Blk w3 (w.heap.size + 1) 58 #[.int .i64 k, .int .i64 vl, .int .i64 a, .int .i64 z] := by rw [← hw3]; exact (Blk.new' (by simp)).alloc _
  have hB2 : Blk w3 (w.heap.size + 1 + 1) 41 #[.int .i64 c.p, .int .i64 c.lim, .int .i64 c.agg, .int .i64 c.ded, .int .i64 c.sh] := by rw [← hw3]; exact Blk.new' (by simp)
  have hb3 : Below w.heap.size w w3 := by rw [← hw3]; exact (((Below.refl _ _).alloc (Nat.le_refl _) _).alloc (by simp) _).alloc (by simp; omega) _
  have HW := hide hw3
  have H3 := hide hb3
  have HB0 := hide hB0
  have HB1 := hide hB1
  have HB2 := hide hB2
  have HS3 := hide (HS.out.below hb3)
  clear hw3 hb3 hB0 hB1 hB2
  obtain ⟨b1, hb1⟩ : ∃ b, versionB x.v = b := ⟨_, rfl⟩
  obtain ⟨b2, hb2⟩ : ∃ b, riskB k vl a z = b := ⟨_, rfl⟩
  obtain ⟨b3, hb3⟩ : ∃ b, coverB c = b := ⟨_, rfl⟩
  have K1 := hide hb1
  have K2 := hide hb2
  have K3 := hide hb3
  clear hb1 hb2 hb3
  have lt0 := HB0.out.lt
  have lt1 := HB1.out.lt
  have lt2 := HB2.out.lt
  go_enter Tryz.func77, Tryz.ntmps77
  go_wp2_with fail
  go_step3
  have v0 := HB0.out.cell 0
  have v1 := HB0.out.cell 1
  have v2 := HB0.out.cell 2
  have v3 := HB0.out.cell 3
  have v4 := HB0.out.cell 4
  have v5 := HB0.out.cell 5
  have v6 := HB0.out.cell 6
  have v7 := HB0.out.cell 7
  have v8 := HB0.out.cell 8
  simp [boxV] at v0 v1 v2 v3 v4 v5 v6 v7 v8
  have r0 := HB1.out.cell 0
  have r1 := HB1.out.cell 1
  have r2 := HB1.out.cell 2
  have r3 := HB1.out.cell 3
  simp at r0 r1 r2 r3
  have c0 := HB2.out.cell 0
  have c1 := HB2.out.cell 1
  have c2 := HB2.out.cell 2
  have c3 := HB2.out.cell 3
  have c4 := HB2.out.cell 4
  simp at c0 c1 c2 c3 c4
  go_wp2_with fail
  rw [show ((w.alloc (.cells #[.int .i64 x.f, .int .i64 x.b0, .int .i64 x.b1, .int .i64 x.b2, .int .i64 x.b3, .slice x.aA x.age.length x.aC, .slice x.zA x.zone.length x.zC, .slice x.pA x.peril.length x.pC, .int .i64 x.mn] 114)).alloc (.cells #[.int .i64 k, .int .i64 vl, .int .i64 a, .int .i64 z] 58)).alloc (.cells #[.int .i64 c.p, .int .i64 c.lim, .int .i64 c.agg, .int .i64 c.ded, .int .i64 c.sh] 41) = w3 from HW.out]
  refine (version_is K1.out _ HS3.out).mono ?_
  rintro e w4 ⟨rfl, h4⟩
  cases b1
  · have hE : E = 1 := by rw [← HE.out, oneE, K1.out]; rfl
    have hV : V = 0 := by rw [← HV.out, oneV, K1.out]; rfl
    subst hE hV
    have H4 := hide (chain H3.out h4)
    clear h4
    go_wp2_with fail
    go_ret2
    exact ⟨rfl, H4.out⟩
  have q0 := kept h4 r0
  have q1 := kept h4 r1
  have q2 := kept h4 r2
  have q3 := kept h4 r3
  have H4 := hide h4
  clear h4
  go_wp2_with fail
  refine (risk_is K2.out _).mono ?_
  rintro e w5 ⟨rfl, h5⟩
  cases b2
  · have hE : E = 1 := by rw [← HE.out, oneE, K1.out, K2.out]; rfl
    have hV : V = 0 := by rw [← HV.out, oneV, K1.out, K2.out]; rfl
    subst hE hV
    have H5 := hide (chain H3.out (chain H4.out h5))
    clear h5
    go_wp2_with fail
    go_ret2
    exact ⟨rfl, H5.out⟩
  have d0 := kept (chain H4.out h5) c0
  have d1 := kept (chain H4.out h5) c1
  have d2 := kept (chain H4.out h5) c2
  have d3 := kept (chain H4.out h5) c3
  have d4 := kept (chain H4.out h5) c4
  have H5 := hide (chain H4.out h5)
  clear h5
  go_wp2_with fail
  refine (cover_is K3.out HC.out _).mono ?_
  rintro e w6 ⟨rfl, h6⟩
  cases b3
  · have hE : E = 1 := by rw [← HE.out, oneE, K1.out, K2.out, K3.out]; rfl
    have hV : V = 0 := by rw [← HV.out, oneV, K1.out, K2.out, K3.out]; rfl
    subst hE hV
    have H6 := hide (chain H3.out (chain H5.out h6))
    clear h6
    go_wp2_with fail
    go_ret2
    exact ⟨rfl, H6.out⟩
  have hb6 := chain H5.out h6
  have H6 := hide hb6
  have r0 := kept hb6 r0
  have r1 := kept hb6 r1
  have r2 := kept hb6 r2
  have r3 := kept hb6 r3
  have e0 := kept hb6 c0
  have e4 := kept hb6 c4
  have HB := hide (HB0.out.below hb6 lt0)
  have v5 := kept hb6 v5
  have v6 := kept hb6 v6
  have v7 := kept hb6 v7
  have v8 := kept hb6 v8
  clear h6 hb6 q0 q1 q2 q3 d0 d1 d2 d3 d4 c0 c1 c2 c3 c4 v0 v1 v2 v3 v4
  by_cases hz : (x.zone.length : Int) ≤ z
  · have hE : E = 7 := by rw [← HE.out, oneE, K1.out, K2.out, K3.out]; simp [Vw.v, hz]
    have hV : V = 0 := by rw [← HV.out, oneV, K1.out, K2.out, K3.out]; simp [Vw.v, hz]
    subst hE hV
    go_wp2_with fail
    go_ret2
    exact ⟨rfl, chain H3.out H6.out⟩
  have hR : 0 ≤ k ∧ k < 4 ∧ 1 ≤ vl ∧ vl ≤ 1000000000000000 ∧ 0 ≤ a ∧ a ≤ 200 ∧ 0 ≤ z ∧ z < 100 := of_decide_eq_true K2.out
  have hP : 0 ≤ c.p ∧ c.p < 8 ∧ 1 ≤ c.sh ∧ c.sh ≤ 10000 ∧ 0 ≤ c.ded ∧ c.ded < c.lim ∧ c.lim ≤ c.agg ∧ c.agg ≤ 1000000000000000 := of_decide_eq_true K3.out
  have hVB := K1.out
  simp only [versionB, Bool.and_eq_true] at hVB
  obtain ⟨hn1, hl1, fb0, fz0, fp0, ba0⟩ := hVB
  rw [numsB_iff] at hn1
  rw [lensB_iff] at hl1
  have HR := hide hR
  obtain ⟨kn, rfl⟩ : ∃ n : Nat, k = n := ⟨k.toNat, by omega⟩
  obtain ⟨vn, rfl⟩ : ∃ n : Nat, vl = n := ⟨vl.toNat, by omega⟩
  obtain ⟨zn, rfl⟩ : ∃ n : Nat, z = n := ⟨z.toNat, by omega⟩
  obtain ⟨cp, cl, ca, cd, cs⟩ := c
  simp only at hP e0 e4
  obtain ⟨pn, rfl⟩ : ∃ n : Nat, cp = n := ⟨cp.toNat, by omega⟩
  obtain ⟨sn, rfl⟩ : ∃ n : Nat, cs = n := ⟨cs.toNat, by omega⟩
  obtain ⟨xb, hxb⟩ := get_of (l := [x.b0, x.b1, x.b2, x.b3]) (k := kn) (by simp; omega)
  obtain ⟨xz, hxz⟩ := get_of (l := x.zone) (k := zn) (by omega)
  obtain ⟨xp, hxp⟩ := get_of (l := x.peril) (k := pn) (by omega)
  have bxb := facB_get fb0 hxb
  have bxz := facB_get fz0 hxz
  have bxp := facB_get fp0 hxp
  have bxa : 0 ≤ bandI a x.age ∧ bandI a x.age ≤ 100000 := by
    have := ba0
    simp only [bandsB, Bool.and_eq_true] at this
    exact bandI_bd this.1
  obtain ⟨fb, rfl⟩ : ∃ n : Nat, xb = n := ⟨xb.toNat, by omega⟩
  obtain ⟨fz, rfl⟩ : ∃ n : Nat, xz = n := ⟨xz.toNat, by omega⟩
  obtain ⟨fp, rfl⟩ : ∃ n : Nat, xp = n := ⟨xp.toNat, by omega⟩
  obtain ⟨fa, hfa⟩ : ∃ n : Nat, bandI a x.age = n := ⟨(bandI a x.age).toNat, by omega⟩
  rw [hfa] at bxa
  have HF := hide (show facsN x.v kn a zn ⟨pn, cl, ca, cd, sn⟩ = [fb, fa, fz, fp, sn] by
    simp only [facsN, Int.toNat_natCast]
    rw [show [x.v.b0, x.v.b1, x.v.b2, x.v.b3][kn]? = some (fb : Int) from hxb, show x.v.zone[zn]? = some (fz : Int) from hxz, show x.v.peril[pn]? = some (fp : Int) from hxp, show bandI a x.v.age = (fa : Int) from hfa]
    rfl)
  have HS6 := hide (HS3.out.below H6.out)
  have HBD := hide (show ∀ W, Below w6.heap.size w6 W → Calls Tryz.prog 129 #[.slice x.aA x.age.length x.aC, .int .i64 a] W fun e w' => e = .returned (.int .i64 (fa : Int)) ∧ Below w6.heap.size w6 w' from fun W hW =>
    (band_any x.aA x.aC x.age a W (HS6.out.age.below hW).sl (by have := HS6.out.age.le; have := HS6.out.age.most; unfold maxLen at this; omega) HS6.out.age.le).mono fun e w' h => ⟨by rw [h.1, hfa], chain hW h.2⟩)
  obtain ⟨zb, zo, hzA, -, cz⟩ := HS6.out.zone.sl.i hxz
  obtain ⟨pb, po, hpA, -, cpp⟩ := HS6.out.peril.sl.i hxp
  rw [hzA] at v6
  rw [hpA] at v7
  have cb : w6.cell? ⟨w.heap.size, 1 + kn, none⟩ = some (.int .i64 (fb : Int)) := by
    rw [HB.out.cell]
    rcases (show kn = 0 ∨ kn = 1 ∨ kn = 2 ∨ kn = 3 by omega) with rfl | rfl | rfl | rfl <;> (simp at hxb; simp [boxV, hxb])
  have hzl : (zn : Int) < (x.zone.length : Int) := by omega
  have hpl : (pn : Int) < (x.peril.length : Int) := by omega
  have hk4 : (kn : Int) < 4 := by omega
  have n1 : (0 : Int) ≤ (zn : Int) := by omega
  have n2 : (0 : Int) ≤ (pn : Int) := by omega
  have n3 : (0 : Int) ≤ (kn : Int) := by omega
  clear fb0 fz0 fp0 ba0 hxb hxz hxp hfa hzA hpA hR hz hl1
  have hzz := hide hzl
  have hzd : decide (x.zone.length ≤ zn) = false := by simp; omega
  go_wp2_with fail
  go_step3
  go_wp2_with fail
  refine wp_region_class (fun W => Below w6.heap.size w6 W) (by kernel_rfl) (by kernel_rfl) (Below.refl _ _).drew ?_
  repeat (first
    | go_big_quiet_skip
    | (go_big_quiet_want
       first
         | (go_big_quiet_op
            go_big_quiet_on)
         | (refine quiet_call (v := .int .i64 (fa : Int)) (f := 129) (args := #[.slice x.aA x.age.length x.aC, .int .i64 a]) ?_ ?_ ?_
            · intro W hW
              have r0 := kept hW r0
              have r2 := kept hW r2
              have r3 := kept hW r3
              have e0 := kept hW e0
              have e4 := kept hW e4
              have v5 := kept hW v5
              have v6 := kept hW v6
              have v7 := kept hW v7
              have v8 := kept hW v8
              have cz := kept hW cz
              have cpp := kept hW cpp
              have cb := kept hW cb
              clear hW
              go_simp
              done
            · intro W hW
              exact HBD.out W hW
            simp only [Act.put, List.setIfInBounds_toArray, List.set_cons_zero, List.set_cons_succ]
            go_big_quiet_on)
         | (refine quiet_yield (v := ?_) ?_ ?_
            rotate_left
            · intro W hW
              have r0 := kept hW r0
              have r2 := kept hW r2
              have r3 := kept hW r3
              have e0 := kept hW e0
              have e4 := kept hW e4
              have v5 := kept hW v5
              have v6 := kept hW v6
              have v7 := kept hW v7
              have v8 := kept hW v8
              have cz := kept hW cz
              have cpp := kept hW cpp
              have cb := kept hW cb
              clear hW
              go_simp
              try with_reducible rfl
            simp only [Act.put, List.setIfInBounds_toArray, List.set_cons_zero, List.set_cons_succ]
            go_big_quiet_on)))
  refine wpQuiet_nil ?_
  intro W hW
  have HW6 := hide hW
  clear hW hzd r0 r1 r2 r3 e0 e4 v5 v6 v7 cz cpp cb n1 n2 n3 hzl hpl hk4 
  have i0 : ∀ w, (Instr.index 234 (.agg #[.int .i64 (fb : Int), .int .i64 (fa : Int), .int .i64 (fz : Int), .int .i64 (fp : Int), .int .i64 (sn : Int)]) (.int .i64 0)).run Tryz.prog w = .ok (.int .i64 (fb : Int)) w := fun _ => by kernel_rfl
  have i1 : ∀ w, (Instr.index 234 (.agg #[.int .i64 (fb : Int), .int .i64 (fa : Int), .int .i64 (fz : Int), .int .i64 (fp : Int), .int .i64 (sn : Int)]) (.int .i64 1)).run Tryz.prog w = .ok (.int .i64 (fa : Int)) w := fun _ => by kernel_rfl
  have i2 : ∀ w, (Instr.index 234 (.agg #[.int .i64 (fb : Int), .int .i64 (fa : Int), .int .i64 (fz : Int), .int .i64 (fp : Int), .int .i64 (sn : Int)]) (.int .i64 2)).run Tryz.prog w = .ok (.int .i64 (fz : Int)) w := fun _ => by kernel_rfl
  have i3 : ∀ w, (Instr.index 234 (.agg #[.int .i64 (fb : Int), .int .i64 (fa : Int), .int .i64 (fz : Int), .int .i64 (fp : Int), .int .i64 (sn : Int)]) (.int .i64 3)).run Tryz.prog w = .ok (.int .i64 (fp : Int)) w := fun _ => by kernel_rfl
  have i4 : ∀ w, (Instr.index 234 (.agg #[.int .i64 (fb : Int), .int .i64 (fa : Int), .int .i64 (fz : Int), .int .i64 (fp : Int), .int .i64 (sn : Int)]) (.int .i64 4)).run Tryz.prog w = .ok (.int .i64 (sn : Int)) w := fun _ => by kernel_rfl
  obtain ⟨R, hR⟩ : ∃ R, chainN vn [fb, fa, fz, fp, sn] = R := ⟨_, rfl⟩
  have hyes := oneE_yes K1.out K2.out K3.out (show ¬ (x.v.zone.length : Int) ≤ zn by have := hzz.out; show ¬ (x.zone.length : Int) ≤ zn; omega)
  rw [HF.out, HE.out, HV.out, Int.toNat_natCast, hR] at hyes
  have HEE := hide hyes.1
  have HVV := hide hyes.2
  clear hyes
  have hidx : ∀ j : Nat, j < 5 → ∃ f : Nat, [fb, fa, fz, fp, sn][j]? = some f ∧ f ≤ 100000 ∧ ∀ w, (Instr.index 234 (.agg #[.int .i64 (fb : Int), .int .i64 (fa : Int), .int .i64 (fz : Int), .int .i64 (fp : Int), .int .i64 (sn : Int)]) (.int .i64 (j : Int))).run Tryz.prog w = .ok (.int .i64 (f : Int)) w := by
    intro j hj
    rcases (show j = 0 ∨ j = 1 ∨ j = 2 ∨ j = 3 ∨ j = 4 by omega) with rfl | rfl | rfl | rfl | rfl
    · exact ⟨fb, rfl, by omega, i0⟩
    · exact ⟨fa, rfl, by omega, i1⟩
    · exact ⟨fz, rfl, by omega, i2⟩
    · exact ⟨fp, rfl, by omega, i3⟩
    · exact ⟨sn, rfl, by omega, i4⟩
  have HIX := hide hidx
  have HR2 := hide hR
  have hvn : vn ≤ 4000000000000000000 := by have := HR.out; omega
  clear i0 i1 i2 i3 i4 hidx hR bxb bxz bxp bxa hP hn1
  go_wp2_with fail
  go_loopw [8, 9, 60] (fun q8 q9 q60 wr => ∃ (j m : Nat), j ≤ 5 ∧ m ≤ 4000000000000000000 ∧ q60 = .int .i64 j ∧ q8 = .int .i64 m ∧ q9 = .int .i64 0 ∧ chainN m ([fb, fa, fz, fp, sn].drop j) = R ∧ Below w6.heap.size w6 wr) (fun _ _ q _ => 5 - (RowKit.intOf q).toNat)
  case atStart => exact ⟨0, vn, by omega, hvn, rfl, rfl, rfl, HR2.out, HW6.out⟩
  case round =>
    obtain ⟨j, m, hj, hm, rfl, rfl, rfl, hch, hb⟩ := hrel
    have HCH := hide hch
    have HB7 := hide hb
    have mn9 := kept hb v8
    by_cases hlt : j < 5
    · obtain ⟨f, hf, hfb, hix⟩ := HIX.out j hlt
      have HD := hide (drop_of hf)
      have HFB := hide hfb
      obtain ⟨E1, hE1⟩ : ∃ z, evE m f 10000 = z := ⟨_, rfl⟩
      obtain ⟨Q1, hQ1⟩ : ∃ z, evQ m f 10000 = z := ⟨_, rfl⟩
      have HBP := hide (bp_any m f (by omega) (by omega) wr)
      rw [hE1, hQ1] at HBP
      have hQ2 : Q1 ≤ 4000000000000000000 := by rw [← hQ1]; exact evQ_le4 _ _ _
      have HE1 := hide hE1
      have HQ1 := hide hQ1
      have hor : E1 = 0 ∨ E1 = 5 := by rw [← hE1]; exact evE_or _ _ _
      clear hf hfb hE1 hQ1 hch hb
      rcases hor with rfl | rfl
      · go_wp2_with fail
        refine HBP.out.mono ?_
        rintro e w8 ⟨rfl, hb8⟩
        have HB8 := hide (chain HB7.out hb8)
        clear hb8
        go_wp2_with fail
        go_roundw
        case rel =>
          have hrl : ∃ (j' m' : Nat), j' ≤ 5 ∧ m' ≤ 4000000000000000000 ∧ Value.int .i64 ((j : Int) + 1) = .int .i64 j' ∧ Value.int .i64 (Q1 : Int) = .int .i64 m' ∧ Value.int .i64 0 = .int .i64 0 ∧ chainN m' ([fb, fa, fz, fp, sn].drop j') = R ∧ Below w6.heap.size w6 w8 := ⟨j + 1, Q1, by omega, hQ2, by go_num, rfl, rfl, by
            have := HCH.out
            rw [HD.out, chainN, HE1.out, if_pos rfl, HQ1.out] at this
            exact this, HB8.out⟩
          exact hrl
        case measure => simp [RowKit.intOf]; omega
      · go_wp2_with fail
        refine HBP.out.mono ?_
        rintro e w8 ⟨rfl, hb8⟩
        have HB8 := hide (chain HB7.out hb8)
        have hRn : R = none := by
          have := HCH.out
          rw [HD.out, chainN, HE1.out, if_neg (by omega)] at this
          exact this.symm
        have hE : E = 5 := by rw [HEE.out, hRn]; rfl
        have hV : V = 0 := by rw [HVV.out, hRn]; rfl
        subst hE hV
        clear hb8 hRn
        go_wp2_with fail
        go_ret2
        exact ⟨rfl, chain H3.out (chain H6.out HB8.out)⟩
    · obtain rfl : j = 5 := by omega
      have hRs : R = some m := by
        have := HCH.out
        simpa [chainN] using this.symm
      have hE : E = 0 := by rw [HEE.out, hRs]; rfl
      have hV := hide (show V = max (m : Int) x.mn by rw [HVV.out, hRs]; rfl)
      subst hE
      clear hRs hch hb
      go_wp2_with fail
      go_ret2
      rw [hV.out]
      exact ⟨rfl, chain H3.out (chain H6.out HB7.out)⟩
end Go.Proofs.YtmfohnchnbgbaaaGreatDoor

/- What a year of covers costs. -/
namespace Go.Proofs.YtmfohnchnbgbaaaGreatDoor
open Go.RowKit

/-- What a year of covers costs, and what is amiss: s so far, as long as it fits. -/
def yearG (v : Ver) (k vl a z : Int) : List Cv → Int → Bool → Int × Int
  | [], s, true => (s, 0)
  | [], _, false => (0, 5)
  | c :: r, s, f => if oneE v k vl a z c = 0 then (if f = true then (if 4000000000000000000 - s < oneV v k vl a z c then yearG v k vl a z r 0 false else yearG v k vl a z r (s + oneV v k vl a z c) true) else yearG v k vl a z r s false) else (0, oneE v k vl a z c)
def yearQ (v : Ver) (k vl a z : Int) (l : List Cv) : Int × Int := yearG v k vl a z l 0 true
theorem oneV_bd (v : Ver) (k vl a z : Int) (c : Cv) : 0 ≤ oneV v k vl a z c ∧ oneV v k vl a z c ≤ 4000000000000000000 := by
  unfold oneV
  split
  · rename_i h
    simp only [Bool.and_eq_true] at h
    have hn : 1 ≤ v.f ∧ v.f ≤ 292194 ∧ 0 ≤ v.mn ∧ v.mn ≤ 1000000000000000 := by
      have := h.1
      simp only [versionB, Bool.and_eq_true, numsB, decide_eq_true_eq] at this
      exact this.1
    have hr : 0 ≤ k ∧ k < 4 ∧ 1 ≤ vl ∧ vl ≤ 1000000000000000 ∧ 0 ≤ a ∧ a ≤ 200 ∧ 0 ≤ z ∧ z < 100 := of_decide_eq_true h.2.1
    split
    · omega
    · have : ∀ (l : List Nat) (m n : Nat), m ≤ 4000000000000000000 → chainN m l = some n → n ≤ 4000000000000000000 := by
        intro l
        induction l with
        | nil => intro m n hm h; simp [chainN] at h; omega
        | cons b r ih =>
          intro m n hm h
          rw [chainN] at h
          split at h
          · exact ih _ _ (evQ_le4 _ _ _) h
          · cases h
      cases hc : chainN vl.toNat (facsN v k a z c) with
      | none => simp [vOf]
      | some m =>
        have := this _ _ _ (by omega) hc
        simp only [vOf]; omega
  · omega

theorem adder_any (w : World) : Calls Tryz.prog 76 #[] w fun e w' => e = .returned (.func (.func 127) #[] #[.pointer (some ⟨w.heap.size, 0, none⟩)]) ∧ w' = w.alloc (.cells #[.int .i64 0] 3) := by
  have hmf : ∀ (fn : Fn) (first cap : Array Value) (w : World), (Instr.makeFunc fn first cap).run Tryz.prog w = .ok (.func fn first cap) w := fun _ _ _ _ => rfl
  go_enter Tryz.func76, Tryz.ntmps76
  go_wp2
  go_ret
  exact ⟨rfl, rfl⟩
def AddP (g : Nat) (s m : Int) (w : World) (e : Ending) (w' : World) : Prop :=
  if 4000000000000000000 - s < m then e = .returned (.tuple #[.int .i64 0, .bool false]) ∧ w' = w else e = .returned (.tuple #[.int .i64 (s + m), .bool true]) ∧ w' = w.setCell ⟨g, 0, none⟩ (.int .i64 (s + m))
theorem add_any (g : Nat) (s m : Int) (w : World) (hB : Blk w g 3 #[.int .i64 s]) (hs : 0 ≤ s ∧ s ≤ 4000000000000000000) (hm : 0 ≤ m ∧ m ≤ 4000000000000000000) :
    Calls Tryz.prog 127 #[.int .i64 m, .pointer (some ⟨g, 0, none⟩)] w (AddP g s m w) := by
  have c0 := hB.cell 0
  have f0 := hB.frozen 0
  have hl := hB.lt
  simp at c0
  have c1 : (w.setCell ⟨g, 0, none⟩ (.int .i64 (s + m))).cell? ⟨g, 0, none⟩ = some (.int .i64 (s + m)) := by
    have := (hB.set_ 0 (.int .i64 (s + m))).cell 0
    simpa using this
  by_cases h : 4000000000000000000 - s < m
  all_goals
    go_enter Tryz.func127, Tryz.ntmps127
    go_wp2
    go_ret2
    simp [AddP, h]

theorem chainB {B : Nat} {a b c : World} (h : Below B a b) (hB : B ≤ b.heap.size) (h2 : Below b.heap.size b c) : Below B a c := h.trans (h2.mono hB)
def YearP (R : Int × Int) (w : World) (e : Ending) (w' : World) : Prop := e = .returned (.tuple #[.int .i64 R.1, .int .i64 R.2]) ∧ Below w.heap.size w w'
structure YearW (w w1 : World) (s : Int) (wr : World) : Prop where
  b : Below (w.heap.size + 1 + 1) w1 wr
  a : Blk wr (w.heap.size + 1 + 1) 3 #[.int .i64 s]
set_option maxRecDepth 100000 in
set_option maxHeartbeats 4000000 in
theorem yearC_any (x : Vw) (k vl a z : Int) (A : Option Addr) (cap n : Nat) (l : List Cv) (w : World) (hx : VOK w x) (hs : SV w 5 A n cap (l.map encCv)) (ho : ∀ c ∈ l, okCv c) :
    Calls Tryz.prog 40 #[.agg #[.int .i64 x.f, .int .i64 x.b0, .int .i64 x.b1, .int .i64 x.b2, .int .i64 x.b3, .slice x.aA x.age.length x.aC, .slice x.zA x.zone.length x.zC, .slice x.pA x.peril.length x.pC, .int .i64 x.mn], .agg #[.int .i64 k, .int .i64 vl, .int .i64 a, .int .i64 z], .slice A n cap] w (YearP (yearQ x.v k vl a z l) w) := by
  have hn : l.length = n := by have := hs.len; simpa using this
  have hle := hs.le
  have hmo := hs.most
  unfold maxLen at hmo
  obtain ⟨R, hR⟩ : ∃ R, yearQ x.v k vl a z l = R := ⟨_, rfl⟩
  rw [hR]
  have HR := hide hR
  have HN := hide hn
  have HX := hide hx
  have HS := hide hs
  have HO := hide ho
  clear hR hn hx hs ho
  obtain ⟨w1, hw1⟩ : ∃ W, ((w.alloc (.cells (boxV x) 114)).alloc (.cells #[.int .i64 k, .int .i64 vl, .int .i64 a, .int .i64 z] 58)).alloc (.cells #[.int .i64 0] 3) = W := ⟨_, rfl⟩
  have hB0 : Blk w1 w.heap.size 114 (boxV x) := by rw [← hw1]; exact ((Blk.new _ _ _).alloc _).alloc _
  have hB1 : Blk w1 (w.heap.size + 1) 58 #[.int .i64 k, .int .i64 vl, .int .i64 a, .int .i64 z] := by rw [← hw1]; exact (Blk.new' (by simp)).alloc _
  have hB2 : Blk w1 (w.heap.size + 1 + 1) 3 #[.int .i64 0] := by rw [← hw1]; exact Blk.new' (by simp)
  have hb1 : Below w.heap.size w w1 := by rw [← hw1]; exact (((Below.refl _ _).alloc (Nat.le_refl _) _).alloc (by simp) _).alloc (by simp; omega) _
  have lt0 := hB2.lt
  have HW := hide hw1
  have HB0 := hide hB0
  have HB1 := hide hB1
  have HB2 := hide hB2
  have H1 := hide hb1
  clear hw1 hB0 hB1 hB2 hb1
  go_enter Tryz.func40, Tryz.ntmps40
  go_wp2_with fail
  refine (adder_any _).mono ?_
  rintro e w' ⟨rfl, rfl⟩
  rw [show ((w.alloc (.cells #[.int .i64 x.f, .int .i64 x.b0, .int .i64 x.b1, .int .i64 x.b2, .int .i64 x.b3, .slice x.aA x.age.length x.aC, .slice x.zA x.zone.length x.zC, .slice x.pA x.peril.length x.pC, .int .i64 x.mn] 114)).alloc (.cells #[.int .i64 k, .int .i64 vl, .int .i64 a, .int .i64 z] 58)).alloc (.cells #[.int .i64 0] 3) = w1 from HW.out]
  simp only [World.size_alloc]
  go_wp2_with fail
  go_loopw [9, 10, 18] (fun q9 q10 q18 wr => ∃ (j : Nat) (s s' : Int) (f : Bool), j ≤ n ∧ q18 = .int .i64 j ∧ q9 = .int .i64 s ∧ q10 = .bool f ∧ 0 ≤ s' ∧ s' ≤ 4000000000000000000 ∧ yearG x.v k vl a z (l.drop j) s f = R ∧ (f = true → s' = s) ∧ YearW w w1 s' wr) (fun _ _ q _ => n - (RowKit.intOf q).toNat)
  case atStart => exact ⟨0, 0, 0, true, Nat.zero_le _, rfl, rfl, rfl, by omega, by omega, HR.out, fun _ => rfl, Below.refl _ _, HB2.out⟩
  case round =>
    obtain ⟨j, s, s', f, hj, rfl, rfl, rfl, hs1, hs2, hyr, hfs, hYW⟩ := hrel
    have HY := hide hyr
    have HF := hide hfs
    have HYW := hide hYW
    clear hyr hfs hYW
    have hb0 : Below w.heap.size w wr := H1.out.trans (HYW.out.b.mono (by omega))
    have hsz := hb0.size
    by_cases hlt : j < n
    · obtain ⟨c, hc⟩ := get_of (l := l) (k := j) (by rw [HN.out]; exact hlt)
      obtain ⟨b, off, rfl, hbl, c0, c1, c2, c3, c4⟩ := (HS.out.below hb0).sl.cv hc
      have HOK := hide (HO.out c (List.mem_of_getElem? hc))
      have HD := hide (drop_of hc)
      have hk0 : (0 : Int) ≤ (j : Int) := by omega
      have hk1 : (j : Int) < (n : Int) := by omega
      have HBv := hide (HB0.out.below HYW.out.b (by omega))
      have HBr := hide (HB1.out.below HYW.out.b (by omega))
      have v0 := HBv.out.cell 0
      have v1 := HBv.out.cell 1
      have v2 := HBv.out.cell 2
      have v3 := HBv.out.cell 3
      have v4 := HBv.out.cell 4
      have v5 := HBv.out.cell 5
      have v6 := HBv.out.cell 6
      have v7 := HBv.out.cell 7
      have v8 := HBv.out.cell 8
      simp [boxV] at v0 v1 v2 v3 v4 v5 v6 v7 v8
      have r0 := HBr.out.cell 0
      have r1 := HBr.out.cell 1
      have r2 := HBr.out.cell 2
      have r3 := HBr.out.cell 3
      simp at r0 r1 r2 r3
      have hzr : w.heap.size + 1 + 1 < wr.heap.size := HYW.out.a.lt
      have hz1 : w.heap.size + 1 < wr.heap.size := by omega
      have hz0 : w.heap.size < wr.heap.size := by omega
      have HYA := hide ((HYW.out.b.alloc (by omega) (.cells #[.int .i64 c.p, .int .i64 c.lim, .int .i64 c.agg, .int .i64 c.ded, .int .i64 c.sh] 41)))
      have HYB := hide (HYW.out.a.alloc (.cells #[.int .i64 c.p, .int .i64 c.lim, .int .i64 c.agg, .int .i64 c.ded, .int .i64 c.sh] 41))
      have HXW := hide (HX.out.below (hb0.alloc hsz (.cells #[.int .i64 c.p, .int .i64 c.lim, .int .i64 c.agg, .int .i64 c.ded, .int .i64 c.sh] 41)))
      obtain ⟨E1, hE1⟩ : ∃ z', oneE x.v k vl a z c = z' := ⟨_, rfl⟩
      obtain ⟨V1, hV1⟩ : ∃ z', oneV x.v k vl a z c = z' := ⟨_, rfl⟩
      have hVb := oneV_bd x.v k vl a z c
      have HONE := hide (one_any x k vl a z c _ HXW.out HOK.out)
      rw [hE1, hV1] at HONE
      rw [hV1] at hVb
      have HE1 := hide hE1
      have HV1 := hide hV1
      obtain ⟨hV0, hV4⟩ := hVb
      clear hc hb0 hE1 hV1
      by_cases hE : E1 = 0
      · subst hE
        go_wp2_with fail
        refine HONE.out.mono ?_
        rintro e w4 ⟨rfl, h4⟩
        have HY4 := hide (YearW.mk (w := w) (chainB HYA.out (by simp; omega) h4) (HYB.out.below h4 (by simp; omega)))
        clear h4 v0 v1 v2 v3 v4 v5 v6 v7 v8 r0 r1 r2 r3 c0 c1 c2 c3 c4
        cases f
        · go_wp2_with fail
          go_roundw
          case rel => exact ⟨j + 1, s, s', false, by omega, by go_num, rfl, rfl, hs1, hs2, by
            have := HY.out
            rw [HD.out, yearG, if_pos HE1.out, if_neg (by simp)] at this
            exact this, (fun h => by cases h), HY4.out⟩
          case measure => simp [RowKit.intOf]; omega
        · obtain rfl : s' = s := HF.out rfl
          go_wp2_with fail
          refine (add_any (w.heap.size + 1 + 1) s' V1 _ HY4.out.a ⟨hs1, hs2⟩ ⟨hV0, hV4⟩).mono ?_
          intro e w5 hadd
          unfold AddP at hadd
          by_cases hov : 4000000000000000000 - s' < V1
          · rw [if_pos hov] at hadd
            obtain ⟨rfl, rfl⟩ := hadd
            go_wp2_with fail
            go_roundw
            case rel => exact ⟨j + 1, 0, s', false, by omega, by go_num, rfl, rfl, hs1, hs2, by
              have := HY.out
              rw [HD.out, yearG, if_pos HE1.out, if_pos rfl, HV1.out, if_pos hov] at this
              exact this, (fun h => by cases h), HY4.out⟩
            case measure => simp [RowKit.intOf]; omega
          · rw [if_neg hov] at hadd
            obtain ⟨rfl, rfl⟩ := hadd
            go_wp2_with fail
            go_roundw
            case rel => exact ⟨j + 1, s' + V1, s' + V1, true, by omega, by go_num, rfl, rfl, by omega, by omega, by
              have := HY.out
              rw [HD.out, yearG, if_pos HE1.out, if_pos rfl, HV1.out, if_neg (by omega)] at this
              exact this, fun _ => rfl, HY4.out.b.setCell (by simp) _, by simpa using HY4.out.a.set_ 0 (.int .i64 (s' + V1))⟩
            case measure => simp [RowKit.intOf]; omega
      · have hE' : ¬ E1 = 0 := hE
        have hER : R = (0, E1) := by
          have := HY.out
          rw [HD.out, yearG, if_neg (by rw [HE1.out]; exact hE), HE1.out] at this
          exact this.symm
        subst hER
        have hne : (E1 != 0) = true := by simpa using hE
        go_wp2_with fail
        refine HONE.out.mono ?_
        rintro e w4 ⟨rfl, h4⟩
        have H4 := hide (H1.out.trans ((chainB HYA.out (by simp; omega) h4).mono (by omega)))
        clear h4 v0 v1 v2 v3 v4 v5 v6 v7 v8 r0 r1 r2 r3 c0 c1 c2 c3 c4
        go_wp2_with fail
        go_ret2
        exact ⟨rfl, H4.out⟩
    · obtain rfl : j = n := by omega
      have hd : l.drop j = [] := List.drop_eq_nil_of_le (by rw [HN.out]; exact Nat.le_refl _)
      cases f
      · have hER : R = (0, 5) := by
          have := HY.out
          rw [hd, yearG] at this
          exact this.symm
        subst hER
        clear hd
        have HB := hide hb0
        clear hb0
        go_wp2_with fail
        go_ret2
        exact ⟨rfl, HB.out⟩
      · have hER : R = (s, 0) := by
          have := HY.out
          rw [hd, yearG] at this
          exact this.symm
        subst hER
        clear hd
        have HB := hide hb0
        clear hb0
        go_wp2_with fail
        go_ret2
        exact ⟨rfl, HB.out⟩
end Go.Proofs.YtmfohnchnbgbaaaGreatDoor

/- What holds: whether the same holds in two slices. -/
namespace Go.Proofs.YtmfohnchnbgbaaaGreatDoor
open Go.RowKit

def cvB (a b : Cv) : Bool := decide (a.p = b.p ∧ a.lim = b.lim ∧ a.agg = b.agg ∧ a.ded = b.ded ∧ a.sh = b.sh)
def alikeB : List Cv → List Cv → Bool
  | [], [] => true
  | a :: r, b :: s => cvB a b && alikeB r s
  | _, _ => false
theorem cvB_eq {a b : Cv} : cvB a b = true ↔ a = b := by
  cases a; cases b; simp [cvB]
theorem alikeB_eq : ∀ {a b : List Cv}, alikeB a b = true ↔ a = b
  | [], [] => by simp [alikeB]
  | a :: r, b :: s => by simp [alikeB, cvB_eq, alikeB_eq (a := r) (b := s)]
  | [], _ :: _ => by simp [alikeB]
  | _ :: _, [] => by simp [alikeB]
theorem alikeB_len {a b : List Cv} (h : a.length ≠ b.length) : alikeB a b = false := by
  rw [Bool.eq_false_iff]; intro h2; exact h (by rw [alikeB_eq.1 h2])

theorem neq_cov (a0 a1 a2 a3 a4 b0 b1 b2 b3 b4 : Int) (w : World) : (binOp .neq 41 (.agg #[.int .i64 a0, .int .i64 a1, .int .i64 a2, .int .i64 a3, .int .i64 a4]) (.agg #[.int .i64 b0, .int .i64 b1, .int .i64 b2, .int .i64 b3, .int .i64 b4])).run Tryz.prog w = .ok (.bool (!decide (a0 = b0 ∧ a1 = b1 ∧ a2 = b2 ∧ a3 = b3 ∧ a4 = b4))) w := by
  by_cases h0 : a0 = b0 <;> by_cases h1 : a1 = b1 <;> by_cases h2 : a2 = b2 <;> by_cases h3 : a3 = b3 <;> by_cases h4 : a4 = b4 <;> simp [go_sem, h0, h1, h2, h3, h4]
theorem eql_risk (a0 a1 a2 a3 b0 b1 b2 b3 : Int) (w : World) : (binOp .eql 58 (.agg #[.int .i64 a0, .int .i64 a1, .int .i64 a2, .int .i64 a3]) (.agg #[.int .i64 b0, .int .i64 b1, .int .i64 b2, .int .i64 b3])).run Tryz.prog w = .ok (.bool (decide (a0 = b0 ∧ a1 = b1 ∧ a2 = b2 ∧ a3 = b3))) w := by
  by_cases h0 : a0 = b0 <;> by_cases h1 : a1 = b1 <;> by_cases h2 : a2 = b2 <;> by_cases h3 : a3 = b3 <;> simp [go_sem, h0, h1, h2, h3]

set_option maxRecDepth 100000 in
set_option maxHeartbeats 2000000 in
theorem alike_any (A A2 : Option Addr) (n n2 cap cap2 : Nat) (l l2 : List Cv) (w : World) (hs : SV w 5 A n cap (l.map encCv)) (hs2 : SV w 5 A2 n2 cap2 (l2.map encCv)) :
    Calls Tryz.prog 124 #[.slice A n cap, .slice A2 n2 cap2] w fun e w' => e = .returned (.bool (alikeB l l2)) ∧ Below w.heap.size w w' := by
  have hn : l.length = n := by have := hs.len; simpa using this
  have hn2 : l2.length = n2 := by have := hs2.len; simpa using this
  have hle := hs.le
  have hmo := hs.most
  unfold maxLen at hmo
  by_cases hne : n = n2
  case neg =>
    have HF := hide (alikeB_len (show l.length ≠ l2.length by omega))
    have hb : ((n : Int) != (n2 : Int)) = true := by simp; omega
    clear hn hn2 hs hs2
    go_enter Tryz.func124, Tryz.ntmps124
    go_wp2_with fail
    go_ret
    exact ⟨ret_bool HF.out.symm, Below.refl _ _⟩
  subst hne
  have HN := hide hn
  have HN2 := hide hn2
  have HS := hide hs
  have HS2 := hide hs2
  clear hn hn2 hs hs2
  go_enter Tryz.func124, Tryz.ntmps124
  go_wp2_with fail
  go_loopw [14] (fun i wr => ∃ k : Nat, k ≤ n ∧ i = .int .i64 k ∧ alikeB l l2 = alikeB (l.drop k) (l2.drop k) ∧ Below w.heap.size w wr) (fun i _ => n - (RowKit.intOf i).toNat)
  case atStart => exact ⟨0, Nat.zero_le _, rfl, rfl, Below.refl _ _⟩
  case round =>
    obtain ⟨k, hk, rfl, ha, hb⟩ := hrel
    have HA := hide ha
    have HB := hide hb
    clear ha
    by_cases hlt : k < n
    · obtain ⟨c, hx⟩ := get_of (l := l) (k := k) (by rw [HN.out]; exact hlt)
      obtain ⟨d, hy⟩ := get_of (l := l2) (k := k) (by rw [HN2.out]; exact hlt)
      obtain ⟨b, off, rfl, hbl, c0, c1, c2, c3, c4⟩ := (HS.out.below hb).sl.cv hx
      obtain ⟨b', off', rfl, hbl', d0, d1, d2, d3, d4⟩ := (HS2.out.below hb).sl.cv hy
      have HD := hide (drop_of hx)
      have HD2 := hide (drop_of hy)
      have hk0 : (0 : Int) ≤ (k : Int) := by omega
      have hk1 : (k : Int) < (n : Int) := by omega
      clear hx hy hb
      obtain ⟨B, hB⟩ : ∃ B, cvB c d = B := ⟨_, rfl⟩
      have hnq : ∀ w, (binOp .neq 41 (.agg #[.int .i64 c.p, .int .i64 c.lim, .int .i64 c.agg, .int .i64 c.ded, .int .i64 c.sh]) (.agg #[.int .i64 d.p, .int .i64 d.lim, .int .i64 d.agg, .int .i64 d.ded, .int .i64 d.sh])).run Tryz.prog w = .ok (.bool (!B)) w := fun w => by rw [neq_cov, ← hB]; rfl
      have HBB := hide hB
      clear hB
      obtain ⟨w2, hw2⟩ : ∃ W, wr.alloc (.cells #[.int .i64 c.p, .int .i64 c.lim, .int .i64 c.agg, .int .i64 c.ded, .int .i64 c.sh] 41) = W := ⟨_, rfl⟩
      have hbl2 : Blk w2 wr.heap.size 41 #[.int .i64 c.p, .int .i64 c.lim, .int .i64 c.agg, .int .i64 c.ded, .int .i64 c.sh] := by rw [← hw2]; exact Blk.new _ _ _
      have hb2 : Below wr.heap.size wr w2 := by rw [← hw2]; exact (Below.refl _ _).alloc (Nat.le_refl _) _
      have k0 := hbl2.cell 0
      have k1 := hbl2.cell 1
      have k2 := hbl2.cell 2
      have k3 := hbl2.cell 3
      have k4 := hbl2.cell 4
      simp at k0 k1 k2 k3 k4
      have d0 := kept hb2 d0
      have d1 := kept hb2 d1
      have d2 := kept hb2 d2
      have d3 := kept hb2 d3
      have d4 := kept hb2 d4
      have HW2 := hide hw2
      have HB2 := hide (chain HB.out hb2)
      clear hw2 hbl2 hb2
      go_wp2_with fail
      rw [show wr.alloc (.cells #[.int .i64 c.p, .int .i64 c.lim, .int .i64 c.agg, .int .i64 c.ded, .int .i64 c.sh] 41) = w2 from HW2.out]
      refine wp_region_class (fun W => Below w2.heap.size w2 W) (by kernel_rfl) (by kernel_rfl) (Below.refl _ _).drew ?_
      repeat (first
        | go_big_quiet_skip
        | (go_big_quiet_want
           first
             | (go_big_quiet_op
                go_big_quiet_on)
             | (refine quiet_yield (v := ?_) ?_ ?_
                rotate_left
                · intro W hW
                  have d0 := kept hW d0
                  have d1 := kept hW d1
                  have d2 := kept hW d2
                  have d3 := kept hW d3
                  have d4 := kept hW d4
                  have k0 := kept hW k0
                  have k1 := kept hW k1
                  have k2 := kept hW k2
                  have k3 := kept hW k3
                  have k4 := kept hW k4
                  clear hW
                  go_simp
                  try with_reducible rfl
                simp only [Act.put, List.setIfInBounds_toArray, List.set_cons_zero, List.set_cons_succ]
                go_big_quiet_on)))
      refine wpQuiet_nil ?_
      intro W hW
      clear hnq
      have HW := hide (chain HB2.out hW)
      clear hW c0 c1 c2 c3 c4 d0 d1 d2 d3 d4 k0 k1 k2 k3 k4
      cases B
      · have HF := hide (show alikeB l l2 = false by rw [HA.out, HD.out, HD2.out, alikeB, HBB.out]; rfl)
        go_wp2_with fail
        go_ret
        exact ⟨ret_bool HF.out.symm, HW.out⟩
      · have HF := hide (show alikeB l l2 = alikeB (l.drop (k + 1)) (l2.drop (k + 1)) by rw [HA.out, HD.out, HD2.out, alikeB, HBB.out]; rfl)
        go_wp2_with fail
        go_roundw
        case rel => exact ⟨k + 1, by omega, by go_num, HF.out, HW.out⟩
        case measure => simp [RowKit.intOf]; omega
    · obtain rfl : k = n := by omega
      have HT := hide (show alikeB l l2 = true by
        rw [HA.out, List.drop_eq_nil_of_le (by rw [HN.out]; exact Nat.le_refl _), List.drop_eq_nil_of_le (by rw [HN2.out]; exact Nat.le_refl _)]; rfl)
      clear hb
      go_wp2_with fail
      go_ret
      exact ⟨ret_bool HT.out.symm, HB.out⟩

/-- What holds in a span. -/
structure Sc where
  f : Int
  t : Int
  on : Bool
  rk : Int
  rv : Int
  ra : Int
  rz : Int
  A : Option Addr
  l : List Cv
  cap : Nat
  y : Int
def scC (x : Sc) : Array Value := #[.int .i64 x.f, .int .i64 x.t, .bool x.on, .int .i64 x.rk, .int .i64 x.rv, .int .i64 x.ra, .int .i64 x.rz, .slice x.A x.l.length x.cap, .int .i64 x.y]
def riskE (a b : Sc) : Bool := decide (a.rk = b.rk ∧ a.rv = b.rv ∧ a.ra = b.ra ∧ a.rz = b.rz)
def holdsB (a b : Sc) : Bool := a.on == b.on && (riskE a b && alikeB a.l b.l)
theorem alike_is {A A2 : Option Addr} {n n2 cap cap2 : Nat} {l l2 : List Cv} {B : Bool} (h : alikeB l l2 = B) (w : World) (hs : SV w 5 A n cap (l.map encCv)) (hs2 : SV w 5 A2 n2 cap2 (l2.map encCv)) :
    Calls Tryz.prog 124 #[.slice A n cap, .slice A2 n2 cap2] w fun e w' => e = .returned (.bool B) ∧ Below w.heap.size w w' := by
  subst h; exact alike_any A A2 n n2 cap cap2 l l2 w hs hs2
set_option maxRecDepth 100000 in
set_option maxHeartbeats 2000000 in
theorem holds_any (a b : Sc) (w : World) (hs : SV w 5 a.A a.l.length a.cap (a.l.map encCv)) (hs2 : SV w 5 b.A b.l.length b.cap (b.l.map encCv)) :
    Calls Tryz.prog 73 #[.agg #[.int .i64 a.f, .int .i64 a.t, .bool a.on, .int .i64 a.rk, .int .i64 a.rv, .int .i64 a.ra, .int .i64 a.rz, .slice a.A a.l.length a.cap, .int .i64 a.y], .agg #[.int .i64 b.f, .int .i64 b.t, .bool b.on, .int .i64 b.rk, .int .i64 b.rv, .int .i64 b.ra, .int .i64 b.rz, .slice b.A b.l.length b.cap, .int .i64 b.y]] w fun e w' => e = .returned (.bool (holdsB a b)) ∧ Below w.heap.size w w' := by
  have HB := hide (show holdsB a b = (a.on == b.on && (riskE a b && alikeB a.l b.l)) from rfl)
  obtain ⟨R, hR⟩ : ∃ R, riskE a b = R := ⟨_, rfl⟩
  obtain ⟨L, hL⟩ : ∃ L, alikeB a.l b.l = L := ⟨_, rfl⟩
  have heq : ∀ w, (binOp .eql 58 (.agg #[.int .i64 a.rk, .int .i64 a.rv, .int .i64 a.ra, .int .i64 a.rz]) (.agg #[.int .i64 b.rk, .int .i64 b.rv, .int .i64 b.ra, .int .i64 b.rz])).run Tryz.prog w = .ok (.bool R) w := fun w => by rw [eql_risk, ← hR]; rfl
  have HR := hide hR
  have HL := hide hL
  have HS := hide hs
  have HS2 := hide hs2
  clear hR hL hs hs2
  obtain ⟨V, hV⟩ : ∃ V, holdsB a b = V := ⟨_, rfl⟩
  rw [hV]
  have HV := hide hV
  clear hV
  have hcases : (a.on == b.on) = true ∨ (a.on == b.on) = false := by cases a.on == b.on <;> simp
  rcases hcases with hon | hon
  · cases R
    · have hF : V = false := by rw [← HV.out, HB.out, HR.out]; simp
      subst hF
      go_enter Tryz.func73, Tryz.ntmps73
      go_wp2_with fail
      go_ret
      exact ⟨rfl, ((Below.refl _ _).alloc (Nat.le_refl _) _).alloc (by simp) _⟩
    · have hF : V = L := by rw [← HV.out, HB.out, HR.out, hon, HL.out]; simp
      subst hF
      go_enter Tryz.func73, Tryz.ntmps73
      go_wp2_with fail
      have hb2 := (((Below.refl w.heap.size w).alloc (Nat.le_refl _) (.cells (scC a) 121)).alloc (by simp) (.cells (scC b) 121))
      refine (alike_is HL.out _ (HS.out.below hb2) (HS2.out.below hb2)).mono ?_
      rintro e w1 ⟨rfl, h1⟩
      have H1 := hide (chain hb2 h1)
      clear h1 hb2
      go_wp2_with fail
      go_ret
      exact ⟨rfl, H1.out⟩
  · have hF : V = false := by rw [← HV.out, HB.out, hon]; simp
    subst hF
    go_enter Tryz.func73, Tryz.ntmps73
    go_wp2_with fail
    go_ret
    exact ⟨rfl, ((Below.refl _ _).alloc (Nat.le_refl _) _).alloc (by simp) _⟩
end Go.Proofs.YtmfohnchnbgbaaaGreatDoor

/- Changes: what each kind asks, by the map of the checks. -/
namespace Go.Proofs.YtmfohnchnbgbaaaGreatDoor
open Go.RowKit Go.Maps

def elemR : Value → Option (DataW Unit × List MemPlace)
  | .func (.func f) a b => if a.isEmpty && b.isEmpty then some (.lit (.int .i64 (f : Int)), []) else none
  | .nilFunc => some (.lit (.int .i64 (-1)), [])
  | _ => none
theorem elemR_func (f : Nat) : elemR (.func (.func f) #[] #[]) = some (.lit (.int .i64 (f : Int)), []) := rfl
theorem elemR_inv {v : Value} {n : Nat} {ps : List MemPlace} (h : elemR v = some (.lit (.int .i64 (n : Int)), ps)) : v = .func (.func n) #[] #[] := by
  unfold elemR at h
  split at h
  · rename_i f a b
    split at h
    · rename_i h2
      simp only [Bool.and_eq_true, Array.isEmpty_iff] at h2
      simp at h
      obtain ⟨rfl, rfl⟩ := h2
      obtain ⟨h, -⟩ := h
      have : f = n := by first | exact h | exact Int.ofNat_inj.1 h | exact h.1
      rw [this]
    · cases h
  all_goals first | (cases h; done) | (simp at h; done) | (simp at h; omega)
theorem elemR_nil {v : Value} {ps : List MemPlace} (h : elemR v = some (.lit (.int .i64 (-1)), ps)) : v = .nilFunc := by
  unfold elemR at h
  split at h
  · split at h
    · first | (simp at h; done) | (simp at h; omega)
    · cases h
  · rfl
  · cases h
theorem law3 : Keyed Tryz.prog 3 := int_keyed Tryz.underlying3
theorem zeroFn (w : World) : (zeroValue 160).run Tryz.prog w = .ok .nilFunc w := by kernel_rfl
theorem key3 (k : Int) (h : ok64 k) : keyOf Tryz.prog 3 (.int .i64 k) = some (.int .i64 k) := keyOf_int_mk Tryz.underlying3 (by unfold ok64 at h; exact WalkArith.wf_i64 (by omega))
def checksD : DataW Unit := ((((DataW.map []).put (.int .i64 1) (.lit (.int .i64 (148 : Nat)))).put (.int .i64 2) (.lit (.int .i64 (149 : Nat)))).put (.int .i64 3) (.lit (.int .i64 (150 : Nat)))).put (.int .i64 4) (.lit (.int .i64 (151 : Nat)))
def Checks (w : World) (b : Nat) : Prop := w.ownsMap Tryz.prog 3 elemR b 4 checksD

set_option maxRecDepth 100000 in
theorem checks_any (w : World) : Calls Tryz.prog 112 #[] w fun e w' => e = .returned (.map (some w.heap.size)) ∧ Checks w' w.heap.size ∧ Below w.heap.size w w' := by
  have hmm := @run_makeMap Tryz.prog
  have o0 := World.ownsMap_made w Tryz.prog 3 elemR
  obtain ⟨w1, e1, o1, g1⟩ := o0.update law3 Tryz.underlying220 (by unfold maxLen; omega) (key3 1 (by unfold ok64; omega)) (elemR_func 148)
  obtain ⟨w2, e2, o2, g2⟩ := o1.update law3 Tryz.underlying220 (by unfold maxLen; omega) (key3 2 (by unfold ok64; omega)) (elemR_func 149)
  obtain ⟨w3, e3, o3, g3⟩ := o2.update law3 Tryz.underlying220 (by unfold maxLen; omega) (key3 3 (by unfold ok64; omega)) (elemR_func 150)
  obtain ⟨w4, e4, o4, g4⟩ := o3.update law3 Tryz.underlying220 (by unfold maxLen; omega) (key3 4 (by unfold ok64; omega)) (elemR_func 151)
  have H := hide (show Checks w4 w.heap.size from o4)
  have hb0 := (Below.refl w.heap.size w).alloc (Nat.le_refl _) (.map #[] 0)
  have hs := hb0.size
  have hr : ∀ k, some w.heap.size = some k → w.heap.size ≤ k := fun k h => by cases h; exact Nat.le_refl _
  have hb1 := hb0.grown g1 hs hr
  have hb2 := hb1.grown g2 hb1.size hr
  have hb3 := hb2.grown g3 hb2.size hr
  have HB := hide (hb3.grown g4 hb3.size hr)
  clear o0 o1 o2 o3 o4 g1 g2 g3 g4 hb0 hb1 hb2 hb3 hs hr
  go_enter Tryz.func112, Tryz.ntmps112
  go_wp2_with fail
  go_ret
  exact ⟨rfl, H.out, HB.out⟩

/-- A change. -/
structure Ch where
  b : Int
  d : Int
  k : Int
  rk : Int
  rv : Int
  ra : Int
  rz : Int
  A : Option Addr
  l : List Cv
  cap : Nat
  way : Int
def chC (c : Ch) : Array Value := #[.int .i64 c.b, .int .i64 c.d, .int .i64 c.k, .int .i64 c.rk, .int .i64 c.rv, .int .i64 c.ra, .int .i64 c.rz, .slice c.A c.l.length c.cap, .int .i64 c.way]
def noRisk (c : Ch) : Bool := decide (c.rk = 0 ∧ c.rv = 0 ∧ c.ra = 0 ∧ c.rz = 0)
def kind1 (c : Ch) : Bool := riskB c.rk c.rv c.ra c.rz && decide (c.l.length = 0 ∧ c.way = 0)
def kind2 (c : Ch) : Bool := coversB c.l && noRisk c && decide (c.way = 0)
def kind3 (c : Ch) : Bool := decide ((c.way = 0 ∨ c.way = 1) ∧ c.l.length = 0) && noRisk c
def kind4 (c : Ch) : Bool := decide (c.way = 0 ∧ c.l.length = 0) && noRisk c
section
variable {c : Ch} {w : World}
set_option maxHeartbeats 1000000 in
theorem ck4 :
    Calls Tryz.prog 151 #[.agg #[.int .i64 c.b, .int .i64 c.d, .int .i64 c.k, .int .i64 c.rk, .int .i64 c.rv, .int .i64 c.ra, .int .i64 c.rz, .slice c.A c.l.length c.cap, .int .i64 c.way]] w fun e w' => e = .returned (.bool (kind4 c)) ∧ Below w.heap.size w w' := by
  obtain ⟨b, d, k, rk, rv, ra, rz, A, l, cap, way⟩ := c
  obtain ⟨n, hn⟩ : ∃ n, l.length = n := ⟨_, rfl⟩
  simp only [kind4, noRisk, hn]
  clear hn
  go_enter Tryz.func151, Tryz.ntmps151
  go_wp2_with fail
  all_goals
    go_ret
    exact ⟨ret_bool (by rw [Bool.eq_iff_iff]; simp_all), (Below.refl _ _).alloc (Nat.le_refl _) _⟩
set_option maxHeartbeats 1000000 in
theorem ck3 :
    Calls Tryz.prog 150 #[.agg #[.int .i64 c.b, .int .i64 c.d, .int .i64 c.k, .int .i64 c.rk, .int .i64 c.rv, .int .i64 c.ra, .int .i64 c.rz, .slice c.A c.l.length c.cap, .int .i64 c.way]] w fun e w' => e = .returned (.bool (kind3 c)) ∧ Below w.heap.size w w' := by
  obtain ⟨b, d, k, rk, rv, ra, rz, A, l, cap, way⟩ := c
  obtain ⟨n, hn⟩ : ∃ n, l.length = n := ⟨_, rfl⟩
  simp only [kind3, noRisk, hn]
  clear hn
  go_enter Tryz.func150, Tryz.ntmps150
  go_wp2_with fail
  all_goals
    go_ret
    exact ⟨ret_bool (by rw [Bool.eq_iff_iff]; simp_all), (Below.refl _ _).alloc (Nat.le_refl _) _⟩
set_option maxHeartbeats 1000000 in
theorem ck1 :
    Calls Tryz.prog 148 #[.agg #[.int .i64 c.b, .int .i64 c.d, .int .i64 c.k, .int .i64 c.rk, .int .i64 c.rv, .int .i64 c.ra, .int .i64 c.rz, .slice c.A c.l.length c.cap, .int .i64 c.way]] w fun e w' => e = .returned (.bool (kind1 c)) ∧ Below w.heap.size w w' := by
  obtain ⟨b, d, k, rk, rv, ra, rz, A, l, cap, way⟩ := c
  obtain ⟨n, hn⟩ : ∃ n, l.length = n := ⟨_, rfl⟩
  obtain ⟨B, hB⟩ : ∃ B, riskB rk rv ra rz = B := ⟨_, rfl⟩
  have HC := hide (fun W => risk_any rk rv ra rz W)
  simp only [kind1, hn]
  rw [hB] at HC ⊢
  clear hn hB
  go_enter Tryz.func148, Tryz.ntmps148
  go_wp2_with fail
  refine (HC.out _).mono ?_
  rintro e w1 ⟨rfl, b1⟩
  have z7 := kept b1 (b := w.heap.size) (o := 7) (u := .slice A n cap) (by simp)
  have z8 := kept b1 (b := w.heap.size) (o := 8) (u := .int .i64 way) (by simp)
  have H1 := hide (chain1 b1)
  clear b1
  cases B
  all_goals go_wp2_with fail
  all_goals
    go_ret
    exact ⟨ret_bool (by rw [Bool.eq_iff_iff]; simp_all), H1.out⟩
set_option maxHeartbeats 1000000 in
theorem ck2 (hs : SV w 5 c.A c.l.length c.cap (c.l.map encCv)) (ho : ∀ x ∈ c.l, okCv x) :
    Calls Tryz.prog 149 #[.agg #[.int .i64 c.b, .int .i64 c.d, .int .i64 c.k, .int .i64 c.rk, .int .i64 c.rv, .int .i64 c.ra, .int .i64 c.rz, .slice c.A c.l.length c.cap, .int .i64 c.way]] w fun e w' => e = .returned (.bool (kind2 c)) ∧ Below w.heap.size w w' := by
  obtain ⟨b, d, k, rk, rv, ra, rz, A, l, cap, way⟩ := c
  obtain ⟨B, hB⟩ : ∃ B, coversB l = B := ⟨_, rfl⟩
  have HC := hide (fun W (hW : Below w.heap.size w W) => covers_any A cap l.length l W (hs.below hW) ho)
  simp only [kind2, noRisk]
  rw [hB] at HC ⊢
  clear hB hs ho
  obtain ⟨n, hn⟩ : ∃ n, l.length = n := ⟨_, rfl⟩
  simp only [hn] at HC ⊢
  clear hn
  go_enter Tryz.func149, Tryz.ntmps149
  go_wp2_with fail
  refine (HC.out _ ((Below.refl _ _).alloc (Nat.le_refl _) _)).mono ?_
  rintro e w1 ⟨rfl, b1⟩
  have z3 := kept b1 (b := w.heap.size) (o := 3) (u := .int .i64 rk) (by simp)
  have z4 := kept b1 (b := w.heap.size) (o := 4) (u := .int .i64 rv) (by simp)
  have z5 := kept b1 (b := w.heap.size) (o := 5) (u := .int .i64 ra) (by simp)
  have z6 := kept b1 (b := w.heap.size) (o := 6) (u := .int .i64 rz) (by simp)
  have z8 := kept b1 (b := w.heap.size) (o := 8) (u := .int .i64 way) (by simp)
  have H1 := hide (chain1 b1)
  clear b1
  cases B
  all_goals go_wp2_with fail
  all_goals
    go_ret
    exact ⟨ret_bool (by rw [Bool.eq_iff_iff]; simp_all), H1.out⟩
theorem day_any (n : Int) (w : World) : Calls Tryz.prog 113 #[.int .i64 n] w fun e w' => e = .returned (.bool (decide (1 ≤ n ∧ n ≤ 292194))) ∧ w = w' := by
  go_enter Tryz.func113, Tryz.ntmps113
  go_wp2
  all_goals
    go_ret
    exact ⟨ret_bool (by rw [Bool.eq_iff_iff]; simp; try omega), rfl⟩
theorem day_is {n : Int} {b : Bool} (h : decide (1 ≤ n ∧ n ≤ 292194) = b) (w : World) : Calls Tryz.prog 113 #[.int .i64 n] w fun e w' => e = .returned (.bool b) ∧ w = w' := by
  subst h; exact day_any n w
end
def kindB (c : Ch) : Bool := if c.k = 1 then kind1 c else if c.k = 2 then kind2 c else if c.k = 3 then kind3 c else if c.k = 4 then kind4 c else false
def changeB (c : Ch) : Bool := decide (1 ≤ c.b ∧ c.b ≤ 292194) && decide (1 ≤ c.d ∧ c.d ≤ 292194) && kindB c

/-- What the map has at a kind. -/
def fnOf (k : Int) : Value := if k = 1 then .func (.func 148) #[] #[] else if k = 2 then .func (.func 149) #[] #[] else if k = 3 then .func (.func 150) #[] #[] else if k = 4 then .func (.func 151) #[] #[] else .nilFunc
def isKind (k : Int) : Bool := decide (1 ≤ k ∧ k ≤ 4)
theorem checks_look {W : World} {b : Nat} (h : Checks W b) (k : Int) (hk : ok64 k) : (Instr.lookup 220 (.map (some b)) (.int .i64 k) true).run Tryz.prog W = .ok (.tuple #[fnOf k, .bool (isKind k)]) W := by
  obtain ⟨v, ps, hrun, hv⟩ := World.ownsMap.look_ok h law3 Tryz.underlying220 (zeroFn W) (zd := .lit (.int .i64 (-1))) (zp := []) rfl (key3 k hk)
  have hD : checksD = .map [(.int .i64 1, .lit (.int .i64 (148 : Nat))), (.int .i64 2, .lit (.int .i64 (149 : Nat))), (.int .i64 3, .lit (.int .i64 (150 : Nat))), (.int .i64 4, .lit (.int .i64 (151 : Nat)))] := by rfl
  rw [hD] at hrun hv
  simp only [DataW.atKey, Maps.has, List.find?, List.any, Lit.sameKey] at hrun hv
  rcases (show k = 1 ∨ k = 2 ∨ k = 3 ∨ k = 4 ∨ (k < 1 ∨ 4 < k) by omega) with rfl | rfl | rfl | rfl | h5
  · simp at hv
    obtain rfl := elemR_inv (n := 148) hv
    rw [hrun]; simp [fnOf, isKind]
  · simp at hv
    obtain rfl := elemR_inv (n := 149) hv
    rw [hrun]; simp [fnOf, isKind]
  · simp at hv
    obtain rfl := elemR_inv (n := 150) hv
    rw [hrun]; simp [fnOf, isKind]
  · simp at hv
    obtain rfl := elemR_inv (n := 151) hv
    rw [hrun]; simp [fnOf, isKind]
  · have n1 : ¬ 1 = k := by omega
    have n2 : ¬ 2 = k := by omega
    have n3 : ¬ 3 = k := by omega
    have n4 : ¬ 4 = k := by omega
    simp [n1, n2, n3, n4] at hv hrun
    obtain rfl := elemR_nil hv
    have m : isKind k = false := by simp [isKind]; omega
    rw [hrun, m, fnOf, if_neg (by omega), if_neg (by omega), if_neg (by omega), if_neg (by omega)]
set_option maxRecDepth 100000 in
set_option maxHeartbeats 2000000 in
theorem change_any (c : Ch) (w : World) (hc : ok64 c.k) (hs : SV w 5 c.A c.l.length c.cap (c.l.map encCv)) (ho : ∀ x ∈ c.l, okCv x) :
    Calls Tryz.prog 67 #[.agg #[.int .i64 c.b, .int .i64 c.d, .int .i64 c.k, .int .i64 c.rk, .int .i64 c.rv, .int .i64 c.ra, .int .i64 c.rz, .slice c.A c.l.length c.cap, .int .i64 c.way]] w fun e w' => e = .returned (.bool (changeB c)) ∧ Below w.heap.size w w' := by
  obtain ⟨bx, hbx⟩ : ∃ W, w.alloc (.cells (chC c) 77) = W := ⟨_, rfl⟩
  have hB0 : Blk bx w.heap.size 77 (chC c) := by rw [← hbx]; exact Blk.new _ _ _
  have hb0 : Below w.heap.size w bx := by rw [← hbx]; exact (Below.refl _ _).alloc (Nat.le_refl _) _
  go_enter Tryz.func67, Tryz.ntmps67
  go_wp2_with fail
  have hbx' : w.alloc (.cells #[.int .i64 c.b, .int .i64 c.d, .int .i64 c.k, .int .i64 c.rk, .int .i64 c.rv, .int .i64 c.ra, .int .i64 c.rz, .slice c.A c.l.length c.cap, .int .i64 c.way] 77) = bx := hbx
  rw [hbx']
  have c2 : bx.cell? ⟨w.heap.size, 2, none⟩ = some (.int .i64 c.k) := hB0.cell 2
  have HK := hide hc
  have HB0 := hide hB0
  have HBE := hide hb0
  have hlt := hB0.lt
  have HS := hide (hs.below hb0)
  have HO := hide ho
  clear hbx hbx' hB0 hb0 hc hs ho
  go_region_held3 (fun w' => w'.cell? ⟨w.heap.size, 2, none⟩ = some (.int .i64 c.k)) (first | with_reducible exact c2 | go_keep)
    ((with_reducible refine (checks_any _).mono ?_
      rintro e w4 ⟨rfl, hck, hb4⟩
      have hl : (Instr.lookup 220 (.map (some bx.heap.size)) (.int .i64 c.k) true).run Tryz.prog w4 = .ok (.tuple #[fnOf c.k, .bool (isKind c.k)]) w4 := checks_look hck c.k HK.out
      have c2 := kept hb4 c2
      have HB4 := hide hb4
      have HC4 := hide hck
      clear hck hb4))
  have hbx4 := chain HBE.out (show Below bx.heap.size bx w4 from bel_undrew HB4.out)
  have hB4 : Blk w4 w.heap.size 77 (chC c) := HB0.out.drew.below HB4.out hlt
  have HBX := hide hbx4
  have z0 : w4.cell? ⟨w.heap.size, 0, none⟩ = some (.int .i64 c.b) := hB4.cell 0
  have z1 : w4.cell? ⟨w.heap.size, 1, none⟩ = some (.int .i64 c.d) := hB4.cell 1
  have z3 : w4.cell? ⟨w.heap.size, 3, none⟩ = some (.int .i64 c.rk) := hB4.cell 3
  have z4 : w4.cell? ⟨w.heap.size, 4, none⟩ = some (.int .i64 c.rv) := hB4.cell 4
  have z5 : w4.cell? ⟨w.heap.size, 5, none⟩ = some (.int .i64 c.ra) := hB4.cell 5
  have z6 : w4.cell? ⟨w.heap.size, 6, none⟩ = some (.int .i64 c.rz) := hB4.cell 6
  have z7 : w4.cell? ⟨w.heap.size, 7, none⟩ = some (.slice c.A c.l.length c.cap) := hB4.cell 7
  have z8 : w4.cell? ⟨w.heap.size, 8, none⟩ = some (.int .i64 c.way) := hB4.cell 8
  have HS4 := hide (HS.out.below (bel_undrew HB4.out))
  clear hB4 hbx4 HC4 hl
  obtain ⟨D1, hD1⟩ : ∃ D, decide (1 ≤ c.b ∧ c.b ≤ 292194) = D := ⟨_, rfl⟩
  obtain ⟨D2, hD2⟩ : ∃ D, decide (1 ≤ c.d ∧ c.d ≤ 292194) = D := ⟨_, rfl⟩
  obtain ⟨K, hK⟩ : ∃ K, kindB c = K := ⟨_, rfl⟩
  have HR := hide (show changeB c = (D1 && D2 && K) by rw [changeB, hD1, hD2, hK])
  have HD1 := hide (fun W => day_is hD1 W)
  have HD2 := hide (fun W => day_is hD2 W)
  have hcases : (isKind c.k = false ∧ K = false) ∨ (isKind c.k = true ∧ ∃ f, fnOf c.k = .func (.func f) #[] #[] ∧ (∀ args w, (callFunc f args).run Tryz.prog w = .ok (.enter f args) w) ∧ Calls Tryz.prog f #[.agg #[.int .i64 c.b, .int .i64 c.d, .int .i64 c.k, .int .i64 c.rk, .int .i64 c.rv, .int .i64 c.ra, .int .i64 c.rz, .slice c.A c.l.length c.cap, .int .i64 c.way]] w4 fun e w' => e = .returned (.bool K) ∧ Below w4.heap.size w4 w') := by
    rw [← hK]
    rcases (show c.k = 1 ∨ c.k = 2 ∨ c.k = 3 ∨ c.k = 4 ∨ (c.k < 1 ∨ 4 < c.k) by omega) with h | h | h | h | h
    · exact .inr ⟨by simp [isKind, h], 148, by simp [fnOf, h], Go.Proofs.enters_of Tryz.func148 (by kernel_rfl) rfl, by rw [show kindB c = kind1 c by simp [kindB, h]]; exact ck1⟩
    · exact .inr ⟨by simp [isKind, h], 149, by simp [fnOf, h], Go.Proofs.enters_of Tryz.func149 (by kernel_rfl) rfl, by rw [show kindB c = kind2 c by simp [kindB, h]]; exact ck2 HS4.out HO.out⟩
    · exact .inr ⟨by simp [isKind, h], 150, by simp [fnOf, h], Go.Proofs.enters_of Tryz.func150 (by kernel_rfl) rfl, by rw [show kindB c = kind3 c by simp [kindB, h]]; exact ck3⟩
    · exact .inr ⟨by simp [isKind, h], 151, by simp [fnOf, h], Go.Proofs.enters_of Tryz.func151 (by kernel_rfl) rfl, by rw [show kindB c = kind4 c by simp [kindB, h]]; exact ck4⟩
    · exact .inl ⟨by simp [isKind]; omega, by rw [kindB, if_neg (by omega), if_neg (by omega), if_neg (by omega), if_neg (by omega)]⟩
  clear hD1 hD2 hK
  rcases hcases with ⟨hi, rfl⟩ | ⟨hi, f, hf, eg, hc⟩
  · rw [hi]
    go_wp2_with fail
    go_ret
    exact ⟨ret_bool (by rw [HR.out]; simp), HBX.out⟩
  · have HC := hide hc
    rw [hi, hf]
    clear hi hf hc
    cases D1
    · go_wp2_with fail
      refine (HD1.out _).mono ?_
      rintro e w' ⟨rfl, rfl⟩
      go_wp2_with fail
      go_ret
      exact ⟨ret_bool (by rw [HR.out]; simp), HBX.out⟩
    cases D2
    · go_wp2_with fail
      refine (HD1.out _).mono ?_
      rintro e w' ⟨rfl, rfl⟩
      go_wp2_with fail
      refine (HD2.out _).mono ?_
      rintro e w' ⟨rfl, rfl⟩
      go_wp2_with fail
      go_ret
      exact ⟨ret_bool (by rw [HR.out]; simp), HBX.out⟩
    · go_wp2_with fail
      refine (HD1.out _).mono ?_
      rintro e w' ⟨rfl, rfl⟩
      go_wp2_with fail
      refine (HD2.out _).mono ?_
      rintro e w' ⟨rfl, rfl⟩
      go_wp2_with fail
      refine HC.out.mono ?_
      rintro e w5 ⟨rfl, hb5⟩
      have H5 := hide (chain HBX.out hb5)
      clear hb5
      go_wp2_with fail
      go_ret
      exact ⟨ret_bool (by rw [HR.out]; simp), H5.out⟩
end Go.Proofs.YtmfohnchnbgbaaaGreatDoor

/- Histories: whether one may be. -/
namespace Go.Proofs.YtmfohnchnbgbaaaGreatDoor
open Go.RowKit

/-- A history. -/
structure Hi where
  id : Int
  bk : Int
  tm : Tm
  A : Option Addr
  cs : List Ch
  cap : Nat
def hiC (h : Hi) : Array Value := #[.int .i64 h.id, .int .i64 h.bk, .int .i64 h.tm.f, .int .i64 h.tm.t, .int .i64 h.tm.k, .int .i64 h.tm.v, .int .i64 h.tm.a, .int .i64 h.tm.z, .slice h.tm.A h.tm.l.length h.tm.cap, .slice h.A h.cs.length h.cap]
def encCh (c : Ch) : List Value := [.int .i64 c.b, .int .i64 c.d, .int .i64 c.k, .int .i64 c.rk, .int .i64 c.rv, .int .i64 c.ra, .int .i64 c.rz, .slice c.A c.l.length c.cap, .int .i64 c.way]
def okCh (c : Ch) : Prop := ok64 c.k ∧ ∀ x ∈ c.l, okCv x
structure HV (w : World) (h : Hi) : Prop where
  tm : SV w 5 h.tm.A h.tm.l.length h.tm.cap (h.tm.l.map encCv)
  ot : ∀ c ∈ h.tm.l, okCv c
  cs : SV w 9 h.A h.cs.length h.cap (h.cs.map encCh)
  cv : ∀ c ∈ h.cs, SV w 5 c.A c.l.length c.cap (c.l.map encCv)
  oc : ∀ c ∈ h.cs, okCh c
theorem HV.below {w w' : World} {h : Hi} (hv : HV w h) (hb : Below w.heap.size w w') : HV w' h := ⟨hv.tm.below hb, hv.ot, hv.cs.below hb, fun c hc => (hv.cv c hc).below hb, hv.oc⟩
theorem Sl.ch {w : World} {B k : Nat} {A : Option Addr} {M : List Ch} {c : Ch} (h : Sl w B 9 A (M.map encCh)) (hx : M[k]? = some c) :
    ∃ b off, A = some ⟨b, off, none⟩ ∧ b < B ∧ w.cell? ⟨b, off + k * 9, none⟩ = some (.int .i64 c.b) ∧ w.cell? ⟨b, off + k * 9 + 1, none⟩ = some (.int .i64 c.d) ∧ w.cell? ⟨b, off + k * 9 + 2, none⟩ = some (.int .i64 c.k) ∧
      w.cell? ⟨b, off + k * 9 + 3, none⟩ = some (.int .i64 c.rk) ∧ w.cell? ⟨b, off + k * 9 + 4, none⟩ = some (.int .i64 c.rv) ∧ w.cell? ⟨b, off + k * 9 + 5, none⟩ = some (.int .i64 c.ra) ∧
      w.cell? ⟨b, off + k * 9 + 6, none⟩ = some (.int .i64 c.rz) ∧ w.cell? ⟨b, off + k * 9 + 7, none⟩ = some (.slice c.A c.l.length c.cap) ∧ w.cell? ⟨b, off + k * 9 + 8, none⟩ = some (.int .i64 c.way) := by
  obtain ⟨b, off, hA, hb, hc⟩ := h k (encCh c) (by simp [hx])
  exact ⟨b, off, hA, hb, by simpa using hc 0 _ rfl, hc 1 _ rfl, hc 2 _ rfl, hc 3 _ rfl, hc 4 _ rfl, hc 5 _ rfl, hc 6 _ rfl, hc 7 _ rfl, hc 8 _ rfl⟩
def chB (h : Hi) (c : Ch) : Bool := changeB c && inB h.tm.f h.tm.t c.d
def chsB (h : Hi) (l : List Ch) : Bool := l.all (chB h)
def rightH (h : Hi) : Bool := chsB h h.cs && (termsB h.tm && decide (h.cs.length ≤ 2000))
theorem chsB_no {h : Hi} {l : List Ch} {k : Nat} {c : Ch} (hx : l[k]? = some c) (hc : chB h c = false) : chsB h l = false := by
  rw [chsB, List.all_eq_false]
  exact ⟨c, List.mem_of_getElem? hx, by simp [hc]⟩
theorem chsB_take {h : Hi} {l : List Ch} {k : Nat} {c : Ch} (hx : l[k]? = some c) : chsB h (l.take (k + 1)) = (chsB h (l.take k) && chB h c) := by rw [take_of hx]; simp [chsB]
theorem change_is {c : Ch} {B : Bool} (h : changeB c = B) (w : World) (hc : ok64 c.k) (hs : SV w 5 c.A c.l.length c.cap (c.l.map encCv)) (ho : ∀ x ∈ c.l, okCv x) :
    Calls Tryz.prog 67 #[.agg #[.int .i64 c.b, .int .i64 c.d, .int .i64 c.k, .int .i64 c.rk, .int .i64 c.rv, .int .i64 c.ra, .int .i64 c.rz, .slice c.A c.l.length c.cap, .int .i64 c.way]] w fun e w' => e = .returned (.bool B) ∧ Below w.heap.size w w' := by
  subst h; exact change_any c w hc hs ho
theorem in_is {f t d : Int} {B : Bool} (h : inB f t d = B) (w : World) :
    Calls Tryz.prog 68 #[.agg #[.int .i64 f, .int .i64 t], .int .i64 d] w fun e w' => e = .returned (.bool B) ∧ Below w.heap.size w w' := by
  subst h; exact in_any f t d w
theorem terms_is {x : Tm} {B : Bool} (h : termsB x = B) (w : World) (hs : SV w 5 x.A x.l.length x.cap (x.l.map encCv)) (ho : ∀ c ∈ x.l, okCv c) :
    Calls Tryz.prog 69 #[.agg #[.int .i64 x.f, .int .i64 x.t, .int .i64 x.k, .int .i64 x.v, .int .i64 x.a, .int .i64 x.z, .slice x.A x.l.length x.cap]] w fun e w' => e = .returned (.bool B) ∧ Below w.heap.size w w' := by
  subst h; exact terms_any x w hs ho
theorem hi_cells {w : World} {g : Nat} {h : Hi} (hB : Blk w g 64 (hiC h)) : w.cell? ⟨g, 0, none⟩ = some (.int .i64 h.id) ∧ w.cell? ⟨g, 1, none⟩ = some (.int .i64 h.bk) ∧ w.cell? ⟨g, 2, none⟩ = some (.int .i64 h.tm.f) ∧ w.cell? ⟨g, 3, none⟩ = some (.int .i64 h.tm.t) ∧ w.cell? ⟨g, 4, none⟩ = some (.int .i64 h.tm.k) ∧ w.cell? ⟨g, 5, none⟩ = some (.int .i64 h.tm.v) ∧ w.cell? ⟨g, 6, none⟩ = some (.int .i64 h.tm.a) ∧ w.cell? ⟨g, 7, none⟩ = some (.int .i64 h.tm.z) ∧ w.cell? ⟨g, 8, none⟩ = some (.slice h.tm.A h.tm.l.length h.tm.cap) ∧ w.cell? ⟨g, 9, none⟩ = some (.slice h.A h.cs.length h.cap) :=
  ⟨hB.cell 0, hB.cell 1, hB.cell 2, hB.cell 3, hB.cell 4, hB.cell 5, hB.cell 6, hB.cell 7, hB.cell 8, hB.cell 9⟩

set_option maxRecDepth 100000 in
set_option maxHeartbeats 4000000 in
theorem right_h (h : Hi) (w : World) (hv : HV w h) :
    Calls Tryz.prog 37 #[.agg #[.int .i64 h.id, .int .i64 h.bk, .int .i64 h.tm.f, .int .i64 h.tm.t, .int .i64 h.tm.k, .int .i64 h.tm.v, .int .i64 h.tm.a, .int .i64 h.tm.z, .slice h.tm.A h.tm.l.length h.tm.cap, .slice h.A h.cs.length h.cap]] w fun e w' => e = .returned (.bool (rightH h)) ∧ Below w.heap.size w w' := by
  obtain ⟨V, hV⟩ : ∃ V, rightH h = V := ⟨_, rfl⟩
  rw [hV]
  have HVV := hide hV
  clear hV
  have hle := hv.cs.le
  have hmo := hv.cs.most
  unfold maxLen at hmo
  obtain ⟨n, hn⟩ : ∃ n, h.cs.length = n := ⟨_, rfl⟩
  have HN := hide hn
  have HV := hide hv
  obtain ⟨w1, hw1⟩ : ∃ W, w.alloc (.cells (hiC h) 64) = W := ⟨_, rfl⟩
  have hB : Blk w1 w.heap.size 64 (hiC h) := by rw [← hw1]; exact Blk.new _ _ _
  have hb1 : Below w.heap.size w w1 := by rw [← hw1]; exact (Below.refl _ _).alloc (Nat.le_refl _) _
  obtain ⟨z0, z1, z2, z3, z4, z5, z6, z7, z8, z9⟩ := hi_cells hB
  have lt0 := hB.lt
  have HB := hide hB
  have H1 := hide hb1
  have HW := hide hw1
  rw [hn] at hle
  clear hB hb1 hw1 hv hn
  go_enter Tryz.func37, Tryz.ntmps37
  go_upto_region 1 with fail
  rw [show w.alloc (.cells #[.int .i64 h.id, .int .i64 h.bk, .int .i64 h.tm.f, .int .i64 h.tm.t, .int .i64 h.tm.k, .int .i64 h.tm.v, .int .i64 h.tm.a, .int .i64 h.tm.z, .slice h.tm.A h.tm.l.length h.tm.cap, .slice h.A h.cs.length h.cap] 64) = w1 from HW.out]
  rw [show h.cs.length = n from HN.out] at z9 ⊢
  go_wp2_with fail
  go_loopw [8] (fun i wr => ∃ k : Nat, k ≤ n ∧ i = .int .i64 k ∧ chsB h (h.cs.take k) = true ∧ Below w1.heap.size w1 wr) (fun i _ => n - (RowKit.intOf i).toNat)
  case atStart => exact ⟨0, Nat.zero_le _, rfl, rfl, Below.refl _ _⟩
  case round =>
    obtain ⟨k, hk, rfl, hc, hb⟩ := hrel
    have HC := hide hc
    have HBE := hide hb
    have y2 := kept hb z2
    have y3 := kept hb z3
    have y4 := kept hb z4
    have y5 := kept hb z5
    have y6 := kept hb z6
    have y7 := kept hb z7
    have y8 := kept hb z8
    have y9 := kept hb z9
    have hsz := hb.size
    clear hc
    by_cases hlt : k < n
    · obtain ⟨c, hx⟩ := get_of (l := h.cs) (k := k) (by rw [HN.out]; exact hlt)
      obtain ⟨b, off, hA, hbl, c0, c1, c2, c3, c4, c5, c6, c7, c8⟩ := (HV.out.cs.below (chain H1.out hb)).sl.ch hx
      rw [hA]
      rw [hA] at y9
      have hk0 : (0 : Int) ≤ (k : Int) := by omega
      have hk1 : (k : Int) < (n : Int) := by omega
      have hmem := List.mem_of_getElem? hx
      have HT := hide (chsB_take (h := h) hx)
      have HNO := hide (fun hq => chsB_no (h := h) hx hq)
      have HOK := hide (HV.out.oc c hmem)
      have HCV := hide ((HV.out.cv c hmem).below (chain H1.out hb))
      obtain ⟨b1, hb1⟩ : ∃ B, changeB c = B := ⟨_, rfl⟩
      obtain ⟨b2, hb2⟩ : ∃ B, inB h.tm.f h.tm.t c.d = B := ⟨_, rfl⟩
      have K1 := hide hb1
      have K2 := hide hb2
      have hz0 : w.heap.size < wr.heap.size := by omega
      clear hb hb1 hb2 hx hmem hA
      have hba : Below w.heap.size w (wr.alloc (.cells (chC c) 77)) := (chain H1.out HBE.out).alloc (by omega) _
      have HBA := hide hba
      have HCVA := hide (HCV.out.below ((Below.refl wr.heap.size wr).alloc (Nat.le_refl _) (.cells (chC c) 77)))
      clear hba
      go_wp2_with fail
      refine (change_is K1.out _ HOK.out.1 HCVA.out HOK.out.2).mono ?_
      rintro e w2 ⟨rfl, h2⟩
      cases b1
      · have hV : V = false := by rw [← HVV.out, rightH, HNO.out (by rw [chB, K1.out]; rfl)]; rfl
        subst hV
        have H2 := hide (chain HBA.out h2)
        clear h2
        go_wp2_with fail
        go_ret
        exact ⟨rfl, H2.out⟩
      have q2 := kept h2 (kept ((Below.refl wr.heap.size wr).alloc (Nat.le_refl _) (.cells (chC c) 77)) y2)
      have q3 := kept h2 (kept ((Below.refl wr.heap.size wr).alloc (Nat.le_refl _) (.cells (chC c) 77)) y3)
      have q1 := kept h2 (show (wr.alloc (.cells (chC c) 77)).cell? ⟨wr.heap.size, 1, none⟩ = some (.int .i64 c.d) from (Blk.new wr _ (chC c)).cell 1)
      have H2 := hide (chain HBE.out (chain1 h2))
      clear h2
      go_wp2_with fail
      refine (in_is K2.out _).mono ?_
      rintro e w3 ⟨rfl, h3⟩
      have H3 := hide (chain H2.out h3)
      clear h3
      cases b2
      · have hV : V = false := by rw [← HVV.out, rightH, HNO.out (by rw [chB, K1.out, K2.out]; rfl)]; rfl
        subst hV
        go_wp2_with fail
        go_ret
        exact ⟨rfl, chain H1.out H3.out⟩
      · go_wp2_with fail
        go_roundw
        case rel => exact ⟨k + 1, by omega, by go_num, by rw [HT.out, HC.out, chB, K1.out, K2.out]; rfl, H3.out⟩
        case measure => simp [RowKit.intOf]; omega
    · obtain rfl : k = n := by omega
      obtain ⟨b1, hb1⟩ : ∃ B, termsB h.tm = B := ⟨_, rfl⟩
      have K1 := hide hb1
      have HVV2 := hide (show V = (b1 && decide (k ≤ 2000)) by
        have := HC.out
        rw [List.take_of_length_le (by rw [HN.out]; exact Nat.le_refl _)] at this
        rw [← HVV.out, rightH, this, K1.out, HN.out]; rfl)
      have HTM := hide (HV.out.tm.below (chain H1.out hb))
      have HOT := hide HV.out.ot
      clear hb hb1
      go_wp2_with fail
      refine (terms_is K1.out _ HTM.out HOT.out).mono ?_
      rintro e w2 ⟨rfl, h2⟩
      have H2 := hide (chain H1.out (chain HBE.out h2))
      have y9 := kept h2 y9
      clear h2
      cases b1
      · have hV : V = false := by rw [HVV2.out]; rfl
        subst hV
        go_wp2_with fail
        go_ret
        exact ⟨rfl, H2.out⟩
      · go_wp2_with fail
        go_ret
        exact ⟨ret_bool (by rw [HVV2.out, Bool.eq_iff_iff]; simp; omega), H2.out⟩
theorem right_is {h : Hi} {B : Bool} (hb : rightH h = B) (w : World) (hv : HV w h) :
    Calls Tryz.prog 37 #[.agg #[.int .i64 h.id, .int .i64 h.bk, .int .i64 h.tm.f, .int .i64 h.tm.t, .int .i64 h.tm.k, .int .i64 h.tm.v, .int .i64 h.tm.a, .int .i64 h.tm.z, .slice h.tm.A h.tm.l.length h.tm.cap, .slice h.A h.cs.length h.cap]] w fun e w' => e = .returned (.bool B) ∧ Below w.heap.size w w' := by
  subst hb; exact right_h h w hv
end Go.Proofs.YtmfohnchnbgbaaaGreatDoor

/- The years of days: the program, and the document. -/
namespace Go.Proofs.YtmfohnchnbgbaaaGreatDoor
open Go.RowKit

def leapB (y : Int) : Bool := decide (y % 4 = 0 ∧ (y % 100 ≠ 0 ∨ y % 400 = 0))
def leapI (y : Int) : Int := if leapB y = true then 1 else 0
/-- How many days month m of year y has. -/
def lenM (y m : Int) : Int := if m = 2 then 28 + leapI y else if m = 4 ∨ m = 6 ∨ m = 9 ∨ m = 11 then 30 else 31
/-- How many days are ahead of year y. -/
def aheadI (y : Int) : Int := (y - 1601) * 365 + (y - 1601) / 4 - (y - 1601) / 100 + (y - 1601) / 400
/-- How many days of year y are ahead of month m. -/
def cumM (y m : Int) : Int :=
  if m ≤ 1 then 0 else if m = 2 then 31 else (if m = 3 then 59 else if m = 4 then 90 else if m = 5 then 120 else if m = 6 then 151 else if m = 7 then 181 else if m = 8 then 212 else if m = 9 then 243 else if m = 10 then 273 else if m = 11 then 304 else if m = 12 then 334 else 365) + leapI y
theorem leap_01 (y : Int) : 0 ≤ leapI y ∧ leapI y ≤ 1 := by unfold leapI; split <;> omega
theorem lenM_bd (y m : Int) : 28 ≤ lenM y m ∧ lenM y m ≤ 31 := by
  have := leap_01 y
  unfold lenM; split
  · omega
  · split <;> omega
theorem cumM_succ (y m : Int) (h1 : 1 ≤ m) (h2 : m ≤ 12) : cumM y (m + 1) = cumM y m + lenM y m := by
  have hm : m = 1 ∨ m = 2 ∨ m = 3 ∨ m = 4 ∨ m = 5 ∨ m = 6 ∨ m = 7 ∨ m = 8 ∨ m = 9 ∨ m = 10 ∨ m = 11 ∨ m = 12 := by omega
  rcases hm with rfl | rfl | rfl | rfl | rfl | rfl | rfl | rfl | rfl | rfl | rfl | rfl <;> simp [cumM, lenM] <;> omega
theorem leap_of_ahead (y : Int) : aheadI (y + 1) = aheadI y + 365 + leapI y := by
  unfold aheadI leapI leapB
  simp only [decide_eq_true_eq]
  split <;> omega
theorem tmod_zero (y : Int) (k : Int) : (y.tmod k = 0) ↔ (y % k = 0) := by
  rw [← Int.dvd_iff_tmod_eq_zero, Int.dvd_iff_emod_eq_zero]
set_option maxHeartbeats 1000000 in
theorem ahead_any (y : Int) (h1 : 1601 ≤ y) (h2 : y ≤ 2402) (w : World) : Calls Tryz.prog 23 #[.int .i64 y] w fun e w' => e = .returned (.int .i64 (aheadI y)) ∧ w = w' := by
  go_enter Tryz.func23, Tryz.ntmps23
  go_wp2
  go_ret
  exact ⟨ret_int (by simp only [aheadI]), rfl⟩
theorem is_any (n : Int) (w : World) : Calls Tryz.prog 50 #[.int .i64 n] w fun e w' => e = .returned (.bool (decide (1 ≤ n ∧ n ≤ 292194))) ∧ w = w' := by
  go_enter Tryz.func50, Tryz.ntmps50
  go_wp2
  all_goals
    go_ret
    exact ⟨ret_bool (by rw [Bool.eq_iff_iff]; simp; omega), rfl⟩
def rightB (y m d : Int) : Bool := decide (1601 ≤ y ∧ y ≤ 2400 ∧ 1 ≤ m ∧ m ≤ 12 ∧ 1 ≤ d ∧ d ≤ lenM y m)
def numI (y m d : Int) : Int := aheadI y + cumM y m + d
theorem ahead_bd (y : Int) (h1 : 1601 ≤ y) (h2 : y ≤ 2401) : 0 ≤ aheadI y ∧ aheadI y ≤ 292194 := by unfold aheadI; omega
theorem cum_bd (y m : Int) (h2 : m ≤ 13) : 0 ≤ cumM y m ∧ cumM y m ≤ 366 := by
  have hl := leap_01 y
  have hm : m ≤ 1 ∨ m = 2 ∨ m = 3 ∨ m = 4 ∨ m = 5 ∨ m = 6 ∨ m = 7 ∨ m = 8 ∨ m = 9 ∨ m = 10 ∨ m = 11 ∨ m = 12 ∨ m = 13 := by omega
  rcases hm with h | rfl | rfl | rfl | rfl | rfl | rfl | rfl | rfl | rfl | rfl | rfl | rfl
  · simp [cumM, h]
  all_goals
    simp [cumM]
    try omega
set_option maxHeartbeats 1000000 in
theorem year_any (n : Int) (w : World) :
    Calls Tryz.prog 25 #[.int .i64 n] w fun e w' => ((1 ≤ n ∧ n ≤ 292194 → ∃ y, e = .returned (.tuple #[.int .i64 y, .int .i64 0]) ∧ 1601 ≤ y ∧ y ≤ 2400 ∧ aheadI y < n ∧ n ≤ aheadI (y + 1)) ∧ (¬(1 ≤ n ∧ n ≤ 292194) → e = .returned (.tuple #[.int .i64 0, .int .i64 3]))) ∧ w = w' := by
  by_cases h : 1 ≤ n ∧ n ≤ 292194
  · have hh := hide h
    obtain ⟨h1, h2⟩ := h
    have hdec : decide (1 ≤ n ∧ n ≤ 292194) = true := by simp; omega
    have HD := hide hdec
    clear hdec
    go_enter Tryz.func25, Tryz.ntmps25
    go_wp2_with (go_at_call 50; refine (is_any _ _).mono ?_; rw [HD.out]; rintro e w' ⟨rfl, rfl⟩)
    go_loop [4] (fun t => ∃ y : Int, 1601 ≤ y ∧ y ≤ 2401 ∧ n ≤ aheadI (y + 1) ∧ t = .int .i64 y) (fun t => (intOf t).toNat)
    case atStart => exact ⟨_, by omega, by omega, by unfold aheadI; omega, rfl⟩
    case round =>
      obtain ⟨y, hy1, hy2, hy3, rfl⟩ := hrel
      by_cases hc : n ≤ aheadI y
      · have hy : 1602 ≤ y := by
          rcases Int.lt_or_le 1601 y with hlt | hle
          · omega
          · obtain rfl : y = 1601 := by omega
            simp [aheadI] at hc
            omega
        go_wp2_with (go_at_call 23; refine (ahead_any _ (by omega) (by omega) _).mono ?_; rintro e w' ⟨rfl, rfl⟩)
        go_round
        case rel => exact ⟨y - 1, by omega, by omega, by rw [show y - 1 + 1 = y by omega]; exact hc, rfl⟩
        case measure => simp [intOf]; omega
      · have hc' : aheadI y < n := by omega
        have hy : y ≤ 2400 := by
          rcases Int.lt_or_le y 2401 with hlt | hle
          · omega
          · obtain rfl : y = 2401 := by omega
            simp [aheadI] at hc'
            omega
        go_wp2_with (go_at_call 23; refine (ahead_any _ (by omega) (by omega) _).mono ?_; rintro e w' ⟨rfl, rfl⟩)
        go_ret2
        exact ⟨⟨fun _ => ⟨y, rfl, hy1, hy, hc', hy3⟩, fun h => absurd hh.out h⟩, rfl⟩
  · have hh := hide h
    have hdec : decide (1 ≤ n ∧ n ≤ 292194) = false := by simp; omega
    have HD := hide hdec
    clear hdec h
    go_enter Tryz.func25, Tryz.ntmps25
    go_wp2_with (go_at_call 50; refine (is_any _ _).mono ?_; rw [HD.out]; rintro e w' ⟨rfl, rfl⟩)
    go_ret2
    exact ⟨⟨fun h => absurd h hh.out, fun _ => rfl⟩, rfl⟩
def OfPost (n : Int) (w : World) (e : Ending) (w' : World) : Prop :=
  ∃ y m d : Int, e = .returned (.tuple #[.agg #[.int .i64 y, .int .i64 m, .int .i64 d], .int .i64 0]) ∧ rightB y m d = true ∧ numI y m d = n ∧ Below w.heap.size w w'
theorem ahead_q (q : Int) : aheadI (1601 + q) = q * 365 + q / 4 - q / 100 + q / 400 := by
  unfold aheadI
  rw [show 1601 + q - 1601 = q by omega]
theorem ahead_q1 (q : Int) : aheadI (1601 + q - 1) = (q - 1) * 365 + (q - 1) / 4 - (q - 1) / 100 + (q - 1) / 400 := by
  rw [show 1601 + q - 1 = 1601 + (q - 1) by omega, ahead_q]
/-- The year of a day, as a number. -/
def yearI (n : Int) : Int := if n ≤ aheadI (1601 + (n - 1) / 365) then 1601 + (n - 1) / 365 - 1 else 1601 + (n - 1) / 365
theorem yearI_ok (n : Int) (h1 : 1 ≤ n) (h2 : n ≤ 292194) : 1601 ≤ yearI n ∧ yearI n ≤ 2400 ∧ aheadI (yearI n) < n ∧ n ≤ aheadI (yearI n + 1) := by
  obtain ⟨q, hq⟩ : ∃ q, (n - 1) / 365 = q := ⟨_, rfl⟩
  unfold yearI
  rw [hq]
  have hq1 : 365 * q ≤ n - 1 ∧ n - 1 < 365 * q + 365 := by omega
  clear hq
  split
  · rename_i h
    rw [ahead_q] at h
    rw [show 1601 + q - 1 + 1 = 1601 + q by omega, ahead_q, ahead_q1]
    omega
  · rename_i h
    rw [ahead_q] at h
    rw [show 1601 + q + 1 = 1601 + (q + 1) by omega, ahead_q, ahead_q]
    omega
theorem ahead_lt {y z : Int} (h1 : 1601 ≤ y) (h : y < z) : aheadI y < aheadI z := by
  obtain ⟨p, rfl⟩ : ∃ p, y = 1601 + p := ⟨y - 1601, by omega⟩
  obtain ⟨q, rfl⟩ : ∃ q, z = 1601 + q := ⟨z - 1601, by omega⟩
  rw [ahead_q, ahead_q]
  omega
theorem year_uniq {y z n : Int} (hy : 1601 ≤ y) (hz : 1601 ≤ z) (h1 : aheadI y < n) (h2 : n ≤ aheadI (y + 1)) (h3 : aheadI z < n) (h4 : n ≤ aheadI (z + 1)) : y = z := by
  rcases Int.lt_trichotomy y z with h | h | h
  · rcases Int.lt_or_le (y + 1) z with h' | h'
    · have := ahead_lt (by omega) h'
      omega
    · have e : z = y + 1 := by omega
      rw [← e] at h2
      omega
  · exact h
  · rcases Int.lt_or_le (z + 1) y with h' | h'
    · have := ahead_lt (by omega) h'
      omega
    · have e : y = z + 1 := by omega
      rw [← e] at h4
      omega
theorem year_val (n : Int) (w : World) (h1 : 1 ≤ n) (h2 : n ≤ 292194) : Calls Tryz.prog 25 #[.int .i64 n] w fun e w' => e = .returned (.tuple #[.int .i64 (yearI n), .int .i64 0]) ∧ w = w' :=
  (year_any n w).mono fun _ _ ⟨⟨hy, _⟩, hw⟩ => by
    obtain ⟨y, he, a, b, c, d⟩ := hy ⟨h1, h2⟩
    obtain ⟨a', b', c', d'⟩ := yearI_ok n h1 h2
    rw [year_uniq a a' c d c' d'] at he
    exact ⟨he, hw⟩
theorem year_bad (n : Int) (w : World) (h : ¬(1 ≤ n ∧ n ≤ 292194)) : Calls Tryz.prog 25 #[.int .i64 n] w fun e w' => e = .returned (.tuple #[.int .i64 0, .int .i64 3]) ∧ w = w' :=
  (year_any n w).mono fun _ _ ⟨⟨_, hn⟩, hw⟩ => ⟨hn h, hw⟩
theorem ahead0 : aheadI 1601 = 0 := by simp [aheadI]
theorem cum1 (y : Int) : cumM y 1 = 0 := by simp [cumM]
theorem cum13 (y : Int) : cumM y 13 = 365 + leapI y := by simp [cumM]
theorem cum_mono (y m : Int) (h1 : 1 ≤ m) : ∀ k : Nat, m + k ≤ 13 → cumM y m ≤ cumM y (m + k)
  | 0, _ => by simp
  | k + 1, h => by
    have ih := cum_mono y m h1 k (by omega)
    have := cumM_succ y (m + k) (by omega) (by omega)
    have hb := lenM_bd y (m + k)
    rw [show m + ((k + 1 : Nat) : Int) = m + k + 1 by omega]
    omega
theorem cum_lt (y : Int) {m m' : Int} (h1 : 1 ≤ m) (h : m < m') (h2 : m' ≤ 13) : cumM y m + lenM y m ≤ cumM y m' := by
  obtain ⟨k, hk⟩ : ∃ k : Nat, m' = m + 1 + k := ⟨(m' - m - 1).toNat, by omega⟩
  have := cum_mono y (m + 1) (by omega) k (by omega)
  rw [cumM_succ y m h1 (by omega)] at this
  rw [hk]; exact this
theorem right_iff {y m d : Int} : rightB y m d = true ↔ (1601 ≤ y ∧ y ≤ 2400 ∧ 1 ≤ m ∧ m ≤ 12 ∧ 1 ≤ d ∧ d ≤ lenM y m) := by simp [rightB]
theorem in_year {y m d : Int} (h : rightB y m d = true) : aheadI y < numI y m d ∧ numI y m d ≤ aheadI (y + 1) := by
  rw [right_iff] at h
  obtain ⟨_, _, h3, h4, h5, h6⟩ := h
  have h7 := cum_lt y h3 (show m < 13 by omega) (by omega)
  have h8 := cum_bd y m (by omega)
  rw [cum13] at h7
  have h9 := leap_of_ahead y
  unfold numI; omega

/-- A day's year, or 0. -/
def yrV (n : Int) : Int := if 1 ≤ n ∧ n ≤ 292194 then yearI n else 0
def yrE (n : Int) : Int := if 1 ≤ n ∧ n ≤ 292194 then 0 else 3
theorem year_v (n : Int) (w : World) : Calls Tryz.prog 25 #[.int .i64 n] w fun e w' => e = .returned (.tuple #[.int .i64 (yrV n), .int .i64 (yrE n)]) ∧ w = w' := by
  by_cases h : 1 ≤ n ∧ n ≤ 292194
  · rw [yrV, yrE, if_pos h, if_pos h]; exact year_val n w h.1 h.2
  · rw [yrV, yrE, if_neg h, if_neg h]; exact year_bad n w h
end Go.Proofs.YtmfohnchnbgbaaaGreatDoor

/- Rows: what is amiss with one; how they come in. -/
namespace Go.Proofs.YtmfohnchnbgbaaaGreatDoor
open Go.ChangeShapes Go.WideShapes Go.ChangeAt Go.RowKit

/-- A row: the day of the loss, the day it was booked, how much. -/
structure R3 where
  a : Int
  b : Int
  m : Int
def enc3 (x : R3) : List Value := [.int .i64 x.a, .int .i64 x.b, .int .i64 x.m]
def ok3 (x : R3) : Prop := ok64 x.a ∧ ok64 x.b ∧ ok64 x.m
theorem cells_3 : Tryz.prog.cellsOf 30 = 3 := by kernel_rfl
theorem leaves_3 : leaves Tryz.prog 2 30 = some [.int .i64, .int .i64, .int .i64] := by kernel_rfl
section
variable {H : Type} {enc : TypeId × Value → H} {W : World} {r : Reach} {b0 : Nat} {v : Value} {d : DataW H} {p : List MemPlace}
set_option maxRecDepth 100000 in
theorem open_r3 (hv : Value.okWide Tryz.prog W r b0 30 v) (h : DataW.Trod enc Tryz.prog W 0 (fun _ => true) true 30 v d p) :
    ∃ x : R3, v = .agg #[.int .i64 x.a, .int .i64 x.b, .int .i64 x.m] ∧ ok3 x := by
  obtain ⟨l, rfl, hl⟩ := top_arr enc Tryz.prog W 2 Tryz.underlying30 leaves_3 cells_3 hv h
  obtain ⟨n1, l1, rfl, w1, h1⟩ := leaf_int enc _ _ hl
  obtain ⟨n2, l2, rfl, w2, h2⟩ := leaf_int enc _ _ h1
  obtain ⟨n3, l3, rfl, w3, h3⟩ := leaf_int enc _ _ h2
  obtain rfl := allLeaf_nil enc _ _ h3
  exact ⟨⟨n1, n2, n3⟩, rfl, wf64 w1, wf64 w2, wf64 w3⟩
set_option maxRecDepth 100000 in
theorem open_r3s (hv : Value.okWide Tryz.prog W r b0 25 v) (h : DataW.Trod enc Tryz.prog W 0 (fun _ => true) true 25 v d p) :
    ∃ (A : Option Addr) (l : List R3) (cap : Nat), v = .slice A l.length cap ∧ SV W 3 A l.length cap (l.map enc3) ∧ ∀ x ∈ l, ok3 x := by
  obtain ⟨A, l, cap, hv, h1, h2, h3, h4, h5⟩ := rows_of enc Tryz.prog W (α := R3) 2 3 enc3 ok3 leaves_3 cells_3 rfl (by omega) (fun cs hl => by
    obtain ⟨n1, l1, rfl, w1, h1⟩ := leaf_int enc _ _ hl
    obtain ⟨n2, l2, rfl, w2, h2⟩ := leaf_int enc _ _ h1
    obtain ⟨n3, l3, rfl, w3, h3⟩ := leaf_int enc _ _ h2
    obtain rfl := allLeaf_nil enc _ _ h3
    exact ⟨⟨n1, n2, n3⟩, rfl, wf64 w1, wf64 w2, wf64 w3⟩) (top_slice enc _ _ Tryz.underlying25 hv h)
  exact ⟨A, l, cap, hv, ⟨h3, List.length_map _, h1, h2, h5⟩, h4⟩
end
theorem Sl.r3 {w : World} {B k : Nat} {A : Option Addr} {l : List R3} {x : R3} (h : Sl w B 3 A (l.map enc3)) (hx : l[k]? = some x) :
    ∃ b off, A = some ⟨b, off, none⟩ ∧ b < B ∧ w.cell? ⟨b, off + k * 3, none⟩ = some (.int .i64 x.a) ∧ w.cell? ⟨b, off + k * 3 + 1, none⟩ = some (.int .i64 x.b) ∧ w.cell? ⟨b, off + k * 3 + 2, none⟩ = some (.int .i64 x.m) := by
  obtain ⟨b, off, hA, hb, hc⟩ := h k (enc3 x) (by simp [hx])
  exact ⟨b, off, hA, hb, hc 0 _ rfl, hc 1 _ rfl, hc 2 _ rfl⟩

def moneyB (m : Int) : Bool := decide (0 ≤ m ∧ m ≤ 1000000000000000)
/-- What is amiss with a row. -/
def chk (x : R3) : Int := if ¬(1 ≤ x.a ∧ x.a ≤ 292194 ∧ 1 ≤ x.b ∧ x.b ≤ 292194 ∧ 0 ≤ x.m ∧ x.m ≤ 1000000000000000) then 1 else if x.b < x.a then 4 else 0
theorem money_any (m : Int) (w : World) : Calls Tryz.prog 49 #[.int .i64 m] w fun e w' => e = .returned (.bool (moneyB m)) ∧ w = w' := by
  go_enter Tryz.func49, Tryz.ntmps49
  go_wp2
  all_goals
    go_ret
    exact ⟨ret_bool (by rw [Bool.eq_iff_iff]; simp [moneyB]; omega), rfl⟩

set_option maxHeartbeats 2000000 in
theorem check_any (a b m : Int) (w : World) : Calls Tryz.prog 24 #[.agg #[.int .i64 a, .int .i64 b, .int .i64 m]] w fun e w' => e = .returned (.int .i64 (chk ⟨a, b, m⟩)) ∧ Below w.heap.size w w' := by
  rcases (show a < 1 ∨ (1 ≤ a ∧ 292194 < a) ∨ (1 ≤ a ∧ a ≤ 292194 ∧ b < 1) ∨ (1 ≤ a ∧ a ≤ 292194 ∧ 1 ≤ b ∧ 292194 < b) ∨ (1 ≤ a ∧ a ≤ 292194 ∧ 1 ≤ b ∧ b ≤ 292194) by omega) with h | ⟨h, h1⟩ | ⟨h, h1, h2⟩ | ⟨h, h1, h2, h3⟩ | ⟨h, h1, h2, h3⟩
  iterate 4
    · have e : chk ⟨a, b, m⟩ = 1 := by rw [chk, if_pos (by simp only; omega)]
      have E := hide e
      clear e
      go_enter Tryz.func24, Tryz.ntmps24
      go_wp2_with fail
      go_ret
      exact ⟨by rw [E.out]; rfl, (Below.refl _ _).alloc (Nat.le_refl _) _⟩
  cases hm : moneyB m
  · have e : chk ⟨a, b, m⟩ = 1 := by
      simp only [moneyB, decide_eq_false_iff_not] at hm
      rw [chk, if_pos (by simp only; omega)]
    have E := hide e
    clear e
    go_enter Tryz.func24, Tryz.ntmps24
    go_wp2_with (go_at_call 49; refine (money_any _ _).mono ?_; rintro e w' ⟨rfl, rfl⟩)
    go_ret
    exact ⟨by rw [E.out]; rfl, (Below.refl _ _).alloc (Nat.le_refl _) _⟩
  · by_cases hba : b < a
    · have e : chk ⟨a, b, m⟩ = 4 := by
        simp only [moneyB, decide_eq_true_eq] at hm
        rw [chk, if_neg (by simp only; omega), if_pos hba]
      have E := hide e
      clear e
      go_enter Tryz.func24, Tryz.ntmps24
      go_wp2_with (go_at_call 49; refine (money_any _ _).mono ?_; rintro e w' ⟨rfl, rfl⟩)
      go_ret
      exact ⟨by rw [E.out]; rfl, (Below.refl _ _).alloc (Nat.le_refl _) _⟩
    · have e : chk ⟨a, b, m⟩ = 0 := by
        simp only [moneyB, decide_eq_true_eq] at hm
        rw [chk, if_neg (by simp only; omega), if_neg hba]
      have E := hide e
      clear e
      go_enter Tryz.func24, Tryz.ntmps24
      go_wp2_with (go_at_call 49; refine (money_any _ _).mono ?_; rintro e w' ⟨rfl, rfl⟩)
      go_ret
      exact ⟨by rw [E.out]; rfl, (Below.refl _ _).alloc (Nat.le_refl _) _⟩

end Go.Proofs.YtmfohnchnbgbaaaGreatDoor

/- Sizes that are looked at. -/
namespace Go.Proofs.YtmfohnchnbgbaaaGreatDoor
open Go.RowKit

/-- How many cells a triangle's rows have, in 64 bits. -/
def cellsN (c : List (List Int)) : Int := c.foldl (fun n l => wrap64 (n + l.length)) 0
theorem cellsN_take {c : List (List Int)} {k : Nat} {l : List Int} (h : c[k]? = some l) : cellsN (c.take (k + 1)) = wrap64 (cellsN (c.take k) + l.length) := by rw [take_of h]; simp [cellsN]
def smallB (c : List (List Int)) : Bool := decide (c.length ≤ 100) && decide (cellsN c ≤ 1000)

end Go.Proofs.YtmfohnchnbgbaaaGreatDoor

/- The last cells, the document's; two rows of numbers that are one. -/
namespace Go.Proofs.YtmfohnchnbgbaaaGreatDoor
open Go.RowKit

end Go.Proofs.YtmfohnchnbgbaaaGreatDoor

/- Two triangles that are one; a row with more in it, the document's. -/
namespace Go.Proofs.YtmfohnchnbgbaaaGreatDoor
open Go.RowKit

theorem allM_row {M M' : List Rw} (h : allM M = allM M') {i : Nat} {r : Rw} (hr : M[i]? = some r) : ∃ r', M'[i]? = some r' ∧ r'.l = r.l := by
  have h1 := allM_get hr
  rw [h, allM, List.getElem?_map] at h1
  obtain ⟨r', hr', he⟩ := Option.map_eq_some_iff.1 h1
  exact ⟨r', hr', he⟩

end Go.Proofs.YtmfohnchnbgbaaaGreatDoor

/- A row with more in it, from one cell on: the document's. -/
namespace Go.Proofs.YtmfohnchnbgbaaaGreatDoor
open Go.RowKit

def moreF (dev amt : Int) (k : Nat) (v : Int) : Int := if dev ≤ (k : Int) then v + amt else v
def moreL (dev amt : Int) (l : List Int) : List Int := l.mapIdx (moreF dev amt)
def capB (l : List Int) : Bool := l.all fun v => decide (v ≤ 100000000000000000)
theorem moreL_take {dev amt : Int} {l : List Int} {k : Nat} {v : Int} (h : l[k]? = some v) : moreL dev amt (l.take (k + 1)) = moreL dev amt (l.take k) ++ [moreF dev amt k v] := by
  have hk := lt_of_get h
  rw [take_of h, moreL, moreL, List.mapIdx_concat, List.length_take, Nat.min_eq_left (by omega)]
theorem moreL_len (dev amt : Int) (l : List Int) : (moreL dev amt l).length = l.length := by simp [moreL]
theorem moreL_get {dev amt : Int} {l : List Int} {k : Nat} {v : Int} (h : l[k]? = some v) : (moreL dev amt l)[k]? = some (moreF dev amt k v) := by simp [moreL, h]
def MoreYes (w : World) (L : List Int) (n : Nat) (e : Ending) (w' : World) : Prop := ∃ A' c', e = .returned (.tuple #[.slice A' n c', .bool true]) ∧ SV w' 1 A' n c' (L.map encI) ∧ Below w.heap.size w w' ∧ ∀ kk, blk A' = some kk → w.heap.size ≤ kk

end Go.Proofs.YtmfohnchnbgbaaaGreatDoor

/- An amount put into a triangle: what becomes of it; the document's state. -/
namespace Go.Proofs.YtmfohnchnbgbaaaGreatDoor
open Go.RowKit

/-- What is amiss with an amount put. -/
def putE (f : Int) (c : List (List Int)) (y dev amt : Int) : Int :=
  if rightC f c = false ∨ y < f ∨ f + c.length ≤ y ∨ dev < 0 ∨ c.length - (y - f) ≤ dev ∨ amt < 0 ∨ 1000000000000000 < amt then 1
  else if capB (moreL dev amt (c.getD (y - f).toNat [])) = false then 5 else 0
/-- The triangle with it. -/
def putR (f : Int) (c : List (List Int)) (y dev amt : Int) : List (List Int) := c.set (y - f).toNat (moreL dev amt (c.getD (y - f).toNat []))
theorem putE_cases (f : Int) (c : List (List Int)) (y dev amt : Int) : putE f c y dev amt = 1 ∨ putE f c y dev amt = 5 ∨ putE f c y dev amt = 0 := by
  unfold putE; split
  · exact .inl rfl
  · split
    · exact .inr (.inl rfl)
    · exact .inr (.inr rfl)

theorem SV.grown {w w' : World} {sz n cap : Nat} {A : Option Addr} {rows : List (List Value)} (h : SV w sz A n cap rows) {row : Option Nat} (hg : w.grownBy w' row) (hne : ∀ kk, blk A = some kk → some kk ≠ row) : SV w' sz A n cap rows := by
  refine ⟨fun i r hr => ?_, h.len, h.le, h.most, h.nil⟩
  obtain ⟨b, off, hA, hb, hc⟩ := h.sl i r hr
  refine ⟨b, off, hA, Nat.lt_of_lt_of_le hb hg.size, fun j u hu => ?_⟩
  rw [World.cell?_of_block (w := w)]
  · exact hc j u hu
  · exact hg.block b hb (hne b (by rw [hA]; rfl))
theorem SV.far {w : World} {sz n cap : Nat} {A : Option Addr} {rows : List (List Value)} (h : SV w sz A n cap rows) {p : Addr} (hp : ∀ kk, blk A = some kk → kk ≠ p.block) (u : Value) : SV (w.setCell p u) sz A n cap rows :=
  h.grown (grown_set w p u) (fun kk hk he => hp kk hk (by simpa using he))
theorem SV.lt {w : World} {sz n cap kk : Nat} {A : Option Addr} {rows : List (List Value)} (h : SV w sz A n cap rows) (hn : 0 < n) (hk : blk A = some kk) : kk < w.heap.size := by
  obtain ⟨r, hr⟩ := get_of (l := rows) (k := 0) (by rw [h.len]; exact hn)
  obtain ⟨b, off, hA, hb, _⟩ := h.sl 0 r hr
  subst hA
  simp [blk] at hk
  omega
theorem elRow : ElT Tryz.prog 31 36 1 24 := ElT.mk' (z := .slice none 0 0) Tryz.underlying31 (by kernel_rfl) rfl (by omega)
theorem okRw (M : List Rw) : RowsOk 1 (M.map encRw) := by
  intro r hr
  obtain ⟨x, _, rfl⟩ := List.mem_map.1 hr
  refine ⟨rfl, fun u hu => ?_⟩
  simp [encRw] at hu
  subst hu; rfl

def triC (f : Int) (A : Option Addr) (n cap : Nat) : Array Value := #[.int .i64 f, .slice A n cap]
/-- The state of a triangle that is being made: its box G, its outer slice (owned, from B on), its rows, apart from both. -/
structure Mat (w : World) (B G : Nat) (f : Int) (R : List Rw) (A : Option Addr) (cap : Nat) (wx : World) : Prop where
  o : Blk wx G 33 (triC f A R.length cap)
  own : OwnS wx B 36 1 A R.length cap (R.map encRw)
  rows : ∀ r ∈ R, SV wx 1 r.A r.l.length r.cap (r.l.map encI)
  apart : ∀ r ∈ R, ∀ kk, blk r.A = some kk → kk < wx.heap.size ∧ kk ≠ G ∧ blk A ≠ some kk
  GB : G < B
  base : w.heap.size ≤ G
  bel : Below w.heap.size w wx
section
variable {w wx wy : World} {B G : Nat} {f : Int} {R : List Rw} {A : Option Addr} {cap : Nat}
theorem Mat.below (h : Mat w B G f R A cap wx) (hb : Below wx.heap.size wx wy) : Mat w B G f R A cap wy :=
  ⟨h.o.below hb h.o.lt, h.own.below hb, fun r hr => (h.rows r hr).below hb, fun r hr kk hk => by have := h.apart r hr kk hk; exact ⟨Nat.lt_of_lt_of_le this.1 hb.size, this.2⟩, h.GB, h.base, chain h.bel hb⟩
/-- One row more. -/
theorem Mat.step (h : Mat w B G f R A cap wx) {wo : World} (hwo : Below wx.heap.size wx wo) {r : Rw} (hr : SV wo 1 r.A r.l.length r.cap (r.l.map encI)) (hl : 0 < r.l.length) (ha : ∀ kk, blk r.A = some kk → kk ≠ G ∧ blk A ≠ some kk) {A2 : Option Addr} {c2 : Nat} {wb : World}
    (ho : OwnS wb B 36 1 A2 (R.length + 1) c2 (R.map encRw ++ [r].map encRw)) (hg : wo.grownBy wb (blk A)) (hat : blk A2 = blk A ∨ blk A2 = some wo.heap.size) :
    Mat w B G f (R ++ [r]) A2 c2 (wb.setCell ⟨G, 1, none⟩ (.slice A2 (R.length + 1) c2)) := by
  have h1 := h.below hwo
  have hG : some G ≠ blk A := fun he => by have := (h1.own.lt G he.symm).1; have := h.GB; omega
  have e : (R ++ [r]).length = R.length + 1 := by simp
  refine ⟨?_, ?_, fun x hx => ?_, fun x hx kk hk => ?_, h.GB, h.base, (h1.bel.grown hg h1.bel.size (fun j hj => by have := (h1.own.lt j hj).1; have := h.GB; have := h.base; omega)).setCell (p := ⟨G, 1, none⟩) h.base _⟩
  · rw [e]
    have := (h1.o.grown hg hG).set_ 1 (.slice A2 (R.length + 1) c2)
    simpa [triC] using this
  · rw [e, List.map_append]
    exact ho.far (fun k hk => by have := (ho.lt k hk).1; have := h.GB; simp; omega) _
  · rcases List.mem_append.1 hx with hx | hx
    · exact ((h1.rows x hx).grown hg (fun kk hk he => (h1.apart x hx kk hk).2.2 he.symm)).far (p := ⟨G, 1, none⟩) (fun kk hk => (h1.apart x hx kk hk).2.1) _
    · simp at hx; subst hx
      exact (hr.grown hg (fun kk hk he => (ha kk hk).2 he.symm)).far (p := ⟨G, 1, none⟩) (fun kk hk => (ha kk hk).1) _
  · have hk1 : kk < wo.heap.size ∧ kk ≠ G ∧ blk A ≠ some kk := by
      rcases List.mem_append.1 hx with hx | hx
      · exact h1.apart x hx kk hk
      · simp at hx; subst hx
        exact ⟨hr.lt hl hk, ha kk hk⟩
    refine ⟨by have := hg.size; simp; omega, hk1.2.1, ?_⟩
    rcases hat with hat | hat
    · rw [hat]; exact hk1.2.2
    · rw [hat]; intro he; cases he; omega
theorem Mat.mv (h : Mat w B G f R A cap wx) : MV wx A R.length cap R := ⟨h.own.sv, h.rows⟩
end
end Go.Proofs.YtmfohnchnbgbaaaGreatDoor

/- An amount put into a triangle: the document's walk. -/
namespace Go.Proofs.YtmfohnchnbgbaaaGreatDoor
open Go.RowKit

/-- What Put leaves. -/
def PutT (w : World) (P : Nat → Prop) (f : Int) (c : List (List Int)) (code : Int) (e : Ending) (w' : World) : Prop :=
  Below w.heap.size w w' ∧ ((code ≠ 0 ∧ e = .returned (.tuple #[.agg #[.int .i64 0, .slice none 0 0], .int .i64 code])) ∨
    (code = 0 ∧ ∃ A' c' R, e = .returned (.tuple #[.agg #[.int .i64 f, .slice A' R.length c'], .int .i64 0]) ∧ MV w' A' R.length c' R ∧ allM R = c ∧ (∀ kk, blk A' = some kk → w.heap.size ≤ kk) ∧ ∀ r ∈ R, ∀ kk, blk r.A = some kk → P kk))
def zeroT : Array Value := #[.int .i64 0, .slice none 0 0]
theorem noT_post {w wx : World} {P : Nat → Prop} {f : Int} {c : List (List Int)} {fn : Func} {a : Act} {code : Int} {tr : Tmp} (hz : Blk wx (w.heap.size + 1) 33 zeroT) (hb : Below w.heap.size w wx) (hc : code ≠ 0)
    (hr : fn.results = #[.cell 8 33, .tmp tr]) (hd : a.defers = []) (hp : a.tmps.getD 8 undef = .pointer (some ⟨w.heap.size + 1, 0, none⟩)) (hx : a.tmps.getD tr undef = .int .i64 code) :
    bodyPost Tryz.prog fn (PutT w P f c code) .ret a ((wx.setCell ⟨w.heap.size + 1, 0, none⟩ (.int .i64 0)).setCell ⟨w.heap.size + 1, 1, none⟩ (.slice none 0 0)) := by
  have h2 : Blk ((wx.setCell ⟨w.heap.size + 1, 0, none⟩ (.int .i64 0)).setCell ⟨w.heap.size + 1, 1, none⟩ (.slice none 0 0)) (w.heap.size + 1) 33 zeroT := by
    have := (hz.set_ 0 (.int .i64 0)).set_ 1 (.slice none 0 0)
    simpa [zeroT] using this
  exact ret_row2 hr hd hp hx h2 Tryz.underlying33 rfl (by kernel_rfl) ⟨(hb.setCell (p := ⟨w.heap.size + 1, 0, none⟩) (by simp) _).setCell (p := ⟨w.heap.size + 1, 1, none⟩) (by simp) _, .inl ⟨hc, rfl⟩⟩

end Go.Proofs.YtmfohnchnbgbaaaGreatDoor

/- A triangle that the program makes: its box, its rows, all the call's own; what a store, one row more, a row filled leave. -/
namespace Go.Proofs.YtmfohnchnbgbaaaGreatDoor
open Go.RowKit

def cellsI (l : List Int) : Array Value := (l.map (Value.int .i64)).toArray
/-- A row whose block is known whole. -/
def RowB (w : World) (r : Rw) : Prop := ∃ b, r.A = some ⟨b, 0, none⟩ ∧ r.cap = r.l.length ∧ r.l.length ≤ 1000 ∧ Blk w b 3 (cellsI r.l)
theorem RowB.sv {w : World} {r : Rw} (h : RowB w r) : SV w 1 r.A r.l.length r.cap (r.l.map encI) := by
  obtain ⟨b, hA, hc, hm, hb⟩ := h
  refine ⟨fun i row hr => ⟨b, 0, hA, hb.lt, fun j u hu => ?_⟩, by simp, by omega, by simp only [maxLen]; omega, by simp [hA]⟩
  rw [List.getElem?_map] at hr
  obtain ⟨x, hx, rfl⟩ := Option.map_eq_some_iff.1 hr
  have : j = 0 := by have := lt_of_get hu; simp [encI] at this; exact this
  subst this
  simp [encI] at hu; subst hu
  rw [hb.cell]; simp [cellsI, hx]
theorem RowB.below {w w' : World} {r : Rw} (h : RowB w r) (hb : Below w.heap.size w w') : RowB w' r := by
  obtain ⟨b, hA, hc, hm, hk⟩ := h
  exact ⟨b, hA, hc, hm, hk.below hb hk.lt⟩
theorem RowB.grown {w w' : World} {row : Option Nat} {r : Rw} (h : RowB w r) (hg : w.grownBy w' row) (hne : blk r.A ≠ row) : RowB w' r := by
  obtain ⟨b, hA, hc, hm, hk⟩ := h
  exact ⟨b, hA, hc, hm, hk.grown hg (by rw [hA] at hne; exact hne)⟩
theorem RowB.lt {w : World} {r : Rw} (h : RowB w r) {kk : Nat} (hk : blk r.A = some kk) : kk < w.heap.size := by
  obtain ⟨b, hA, hc, hm, hb⟩ := h
  rw [hA] at hk; cases hk
  exact hb.lt
theorem set_same {α : Type} {l : List α} {i : Nat} {x : α} (h : l[i]? = some x) : l.set i x = l := by
  apply List.ext_getElem?
  intro j
  rw [List.getElem?_set]
  split
  · rename_i e; subst e
    rw [if_pos (lt_of_get h), h]
  · rfl
theorem MV.far {wx : World} {A : Option Addr} {n cap : Nat} {M : List Rw} (h : MV wx A n cap M) {p : Addr} (hA : ∀ kk, blk A = some kk → kk ≠ p.block) (hr : ∀ r ∈ M, ∀ kk, blk r.A = some kk → kk ≠ p.block) (u : Value) : MV (wx.setCell p u) A n cap M :=
  ⟨h.sv.far hA u, fun r hm => (h.rows r hm).far (hr r hm) u⟩

structure TS (w : World) (G : Nat) (f : Int) (R : List Rw) (E : List (List Value)) (A : Option Addr) (cap : Nat) (wx : World) : Prop where
  o : Blk wx G 33 (triC f A (R.length + E.length) cap)
  own : OwnS wx w.heap.size 36 1 A (R.length + E.length) cap (R.map encRw ++ E)
  rows : ∀ r ∈ R, RowB wx r
  ap : ∀ r ∈ R, ∀ kk, blk r.A = some kk → w.heap.size ≤ kk ∧ kk ≠ G ∧ blk A ≠ some kk
  dist : ∀ (i j : Nat) (r s : Rw), R[i]? = some r → R[j]? = some s → blk r.A = blk s.A → i = j
  ne : blk A ≠ some G
  base : w.heap.size ≤ G
  bel : Below w.heap.size w wx
section
variable {w wx wy : World} {G : Nat} {f : Int} {R : List Rw} {E : List (List Value)} {A : Option Addr} {cap : Nat}
theorem TS.below (h : TS w G f R E A cap wx) (hb : Below wx.heap.size wx wy) : TS w G f R E A cap wy :=
  ⟨h.o.below hb h.o.lt, h.own.below hb, fun r hr => (h.rows r hr).below hb, h.ap, h.dist, h.ne, h.base, chain h.bel hb⟩
theorem TS.mv (h : TS w G f R [] A cap wx) : MV wx A R.length cap R := ⟨by have := h.own.sv; simpa using this, fun r hr => (h.rows r hr).sv⟩
theorem TS.drew (h : TS w G f R E A cap wx) : TS w G f R E A cap wx.drew := h.below (Below.refl _ _).drew
theorem TS.own0 (h : TS w G f R [] A cap wx) : OwnS wx w.heap.size 36 1 A R.length cap (R.map encRw) := by have := h.own; simpa using this
theorem TS.o0 (h : TS w G f R [] A cap wx) : Blk wx G 33 (triC f A R.length cap) := by have := h.o; simpa using this
/-- The triangle behind stores into the boxes that were there before. -/
theorem TS.mvfar (h : TS w G f R [] A cap wx) {p q : Addr} (hp : p.block < w.heap.size) (hq : q.block < w.heap.size) (u v : Value) : MV ((wx.setCell p u).setCell q v) A R.length cap R := by
  have hA : ∀ kk, blk A = some kk → w.heap.size ≤ kk := fun kk hk => (h.own.lt kk hk).1
  have hR : ∀ r ∈ R, ∀ kk, blk r.A = some kk → w.heap.size ≤ kk := fun r hr kk hk => (h.ap r hr kk hk).1
  exact (h.mv.far (fun kk hk => by have := hA kk hk; omega) (fun r hr kk hk => by have := hR r hr kk hk; omega) u).far (fun kk hk => by have := hA kk hk; omega) (fun r hr kk hk => by have := hR r hr kk hk; omega) v
/-- A store into a row's cell. -/
theorem TS.put (h : TS w G f R E A cap wx) {i k b : Nat} {r : Rw} (hr : R[i]? = some r) (hb : r.A = some ⟨b, 0, none⟩) (u : Int) :
    TS w G f (R.set i ⟨r.A, r.l.set k u, r.cap⟩) E A cap (wx.setCell ⟨b, k, none⟩ (.int .i64 u)) := by
  have hm := List.mem_of_getElem? hr
  have hi := lt_of_get hr
  obtain ⟨h0, hG, hA⟩ := h.ap r hm b (by rw [hb]; rfl)
  have hmap : (R.set i ⟨r.A, r.l.set k u, r.cap⟩).map encRw = R.map encRw := by
    rw [List.map_set]
    exact set_same (by rw [List.getElem?_map, hr]; simp [encRw])
  have hget : ∀ j s, (R.set i ⟨r.A, r.l.set k u, r.cap⟩)[j]? = some s → ∃ s', R[j]? = some s' ∧ s.A = s'.A ∧ ((j = i ∧ s = ⟨r.A, r.l.set k u, r.cap⟩) ∨ (j ≠ i ∧ s = s')) := by
    intro j s hs
    rw [List.getElem?_set] at hs
    by_cases e : i = j
    · subst e
      rw [if_pos rfl, if_pos hi] at hs; cases hs
      exact ⟨r, hr, rfl, .inl ⟨rfl, rfl⟩⟩
    · rw [if_neg e] at hs
      exact ⟨s, hs, rfl, .inr ⟨fun he => e he.symm, rfl⟩⟩
  refine ⟨?_, ?_, fun s hs => ?_, fun s hs kk hk => ?_, fun p q s t hs ht he => ?_, h.ne, h.base, h.bel.setCell (p := ⟨b, k, none⟩) h0 _⟩
  · rw [List.length_set]; exact h.o.far (fun e => hG e.symm) _
  · rw [hmap, List.length_set]
    exact h.own.far (fun kk hk e => by rw [hk] at hA; exact hA (by rw [e])) _
  · obtain ⟨j, hj⟩ := List.mem_iff_getElem?.1 hs
    obtain ⟨s', hs', eA, h2⟩ := hget j s hj
    rcases h2 with ⟨rfl, rfl⟩ | ⟨hne, rfl⟩
    · obtain ⟨b', hA', hc, hm', hk⟩ := h.rows r hm
      rw [hb] at hA'; cases hA'
      refine ⟨b, hb, by simpa using hc, by simpa using hm', ?_⟩
      have := hk.set_ k (.int .i64 u)
      simpa [cellsI, List.map_set] using this
    · refine (h.rows s (List.mem_of_getElem? hs')).grown (grown_set _ _ _) (fun e => hne (h.dist j i s r hs' hr ?_))
      rw [e, hb]; rfl
  · obtain ⟨j, hj⟩ := List.mem_iff_getElem?.1 hs
    obtain ⟨s', hs', eA, _⟩ := hget j s hj
    exact h.ap s' (List.mem_of_getElem? hs') kk (by rw [← eA]; exact hk)
  · obtain ⟨s', hs', eA, _⟩ := hget p s hs
    obtain ⟨t', ht', eB, _⟩ := hget q t ht
    exact h.dist p q s' t' hs' ht' (by rw [← eA, ← eB]; exact he)
theorem get_app {α : Type} {l : List α} {x y : α} {i : Nat} (h : (l ++ [x])[i]? = some y) : l[i]? = some y ∨ (i = l.length ∧ y = x) := by
  by_cases hi : i < l.length
  · rw [List.getElem?_append_left hi] at h; exact .inl h
  · rw [List.getElem?_append_right (by omega)] at h
    have := lt_of_get h
    simp at this
    right
    have e : i = l.length := by omega
    subst e
    simp at h
    exact ⟨rfl, h.symm⟩
/-- One row more, appended. -/
theorem TS.add (h : TS w G f R [] A cap wx) {wo : World} (hwo : Below wx.heap.size wx wo) {r : Rw} (hr : RowB wo r) (hf : ∀ kk, blk r.A = some kk → wx.heap.size ≤ kk) {A2 : Option Addr} {c2 : Nat} {wb : World}
    (ho : OwnS wb w.heap.size 36 1 A2 (R.length + 1) c2 (R.map encRw ++ [r].map encRw)) (hg : wo.grownBy wb (blk A)) (hat : blk A2 = blk A ∨ blk A2 = some wo.heap.size) :
    TS w G f (R ++ [r]) [] A2 c2 (wb.setCell ⟨G, 1, none⟩ (.slice A2 (R.length + 1) c2)) := by
  have h1 := h.below hwo
  have hG : some G ≠ blk A := fun he => h1.ne he.symm
  have hGo : G < wo.heap.size := h1.o.lt
  have hGx : G < wx.heap.size := h.o.lt
  have hlt : ∀ s ∈ R, ∀ kk, blk s.A = some kk → kk < wx.heap.size := fun s hs kk hk => (h.rows s hs).lt hk
  have hAx : ∀ kk, blk A = some kk → kk < wx.heap.size := fun kk hk => (h.own.lt kk hk).2
  have hrw : ∀ kk, blk r.A = some kk → kk < wo.heap.size := fun kk hk => hr.lt hk
  have hbx := h.bel.size
  have hne2 : blk A2 ≠ some G := by
    rcases hat with e | e
    · rw [e]; exact h1.ne
    · rw [e]; intro e2; cases e2; omega
  refine ⟨?_, ?_, fun x hx => ?_, fun x hx kk hk => ?_, fun i j x y hx hy he => ?_, hne2, h.base, (h1.bel.grown hg h1.bel.size (fun j hj => (h1.own.lt j hj).1)).setCell (p := ⟨G, 1, none⟩) h.base _⟩
  · have := (h1.o.grown hg hG).set_ 1 (.slice A2 (R.length + 1) c2)
    simpa [triC] using this
  · have := ho.far (p := ⟨G, 1, none⟩) (fun k hk e => hne2 (by rw [hk]; exact congrArg some e)) (.slice A2 (R.length + 1) c2)
    simpa using this
  · rcases List.mem_append.1 hx with hx | hx
    · refine ((h1.rows x hx).grown hg (fun e => ?_)).grown (grown_set _ _ _) (fun e => ?_)
      · obtain ⟨b, hb, _⟩ := h1.rows x hx
        exact (h1.ap x hx b (by rw [hb]; rfl)).2.2 (by rw [← e, hb]; rfl)
      · exact (h1.ap x hx G e).2.1 rfl
    · simp at hx; subst hx
      refine (hr.grown hg (fun e => ?_)).grown (grown_set _ _ _) (fun e => ?_)
      · obtain ⟨b, hb, _⟩ := hr
        have h2 := hf b (by rw [hb]; rfl)
        have := hAx b (by rw [← e, hb]; rfl)
        omega
      · have := hf G e; omega
  · rcases List.mem_append.1 hx with hx | hx
    · obtain ⟨a1, a2, a3⟩ := h.ap x hx kk hk
      refine ⟨a1, a2, ?_⟩
      rcases hat with e | e
      · rw [e]; exact a3
      · rw [e]; intro e2; cases e2
        have := hlt x hx _ hk
        have := hwo.size
        omega
    · simp at hx; subst hx
      have h2 := hf kk hk
      have h3 := hrw kk hk
      refine ⟨by omega, by omega, ?_⟩
      rcases hat with e | e
      · rw [e]; intro e2; have := hAx kk e2; omega
      · rw [e]; intro e2; cases e2; omega
  · rcases get_app hx with gx | ⟨rfl, rfl⟩
    · rcases get_app hy with gy | ⟨rfl, rfl⟩
      · exact h.dist i j x y gx gy he
      · obtain ⟨b, hb, _⟩ := h.rows x (List.mem_of_getElem? gx)
        have h2 := hlt x (List.mem_of_getElem? gx) b (by rw [hb]; rfl)
        have := hf b (by rw [← he, hb]; rfl)
        omega
    · rcases get_app hy with gy | ⟨rfl, rfl⟩
      · obtain ⟨b, hb, _⟩ := h.rows y (List.mem_of_getElem? gy)
        have h2 := hlt y (List.mem_of_getElem? gy) b (by rw [hb]; rfl)
        have := hf b (by rw [he, hb]; rfl)
        omega
      · rfl
end
end Go.Proofs.YtmfohnchnbgbaaaGreatDoor
