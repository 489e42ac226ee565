/- A product divided, to the nearest one: the document's. -/
import Derived.Test.YtndfgglnhkdciaaDoorLadE
namespace Go.Proofs.YtndfgglnhkdciaaDoor
open Go.RowKit

theorem checkN_any (a b c : Nat) (hc0 : 0 < c) (w : World) :
    Calls Tryd.prog 28 #[.int .i64 a, .int .i64 b, .int .i64 c] w fun e w' => e = .returned (.int .i64 0) ∧ w' = w := by
  have ha0 : ¬ (a : Int) < 0 := by omega
  have hb0 : ¬ (b : Int) < 0 := by omega
  have hcz : ¬ (c : Int) < 0 := by omega
  have hcy : ((c : Int) == 0) = false := by simp; omega
  go_enter Tryd.func28, Tryd.ntmps28
  go_wp2_with fail
  go_ret
  exact ⟨rfl, rfl⟩

/-- q and l are n by c. -/
def Divs (n c q l : Nat) : Prop := q * c + l = n ∧ l < c
theorem Divs.eq {n c q l : Nat} (h : Divs n c q l) : n / c = q ∧ n % c = l := by
  obtain ⟨h1, h2⟩ := h
  have hc : 0 < c := Nat.lt_of_le_of_lt (Nat.zero_le _) h2
  subst h1
  constructor
  · rw [Nat.add_comm, Nat.add_mul_div_right _ _ hc, Nat.div_eq_of_lt h2, Nat.zero_add]
  · rw [Nat.add_comm, Nat.add_mul_mod_self_right, Nat.mod_eq_of_lt h2]
theorem Divs.two_lo {n c q l : Nat} (h : Divs n c q l) (hl : ¬ c ≤ 2 * l) : Divs (2 * n) c (2 * q) (2 * l) := by
  obtain ⟨h1, h2⟩ := h
  refine ⟨?_, by omega⟩
  rw [Nat.mul_assoc]
  generalize q * c = z at *
  omega
theorem Divs.two_hi {n c q l : Nat} (h : Divs n c q l) (hl : c ≤ 2 * l) : Divs (2 * n) c (2 * q + 1) (2 * l - c) := by
  obtain ⟨h1, h2⟩ := h
  refine ⟨?_, by omega⟩
  rw [Nat.add_mul, Nat.mul_assoc, Nat.one_mul]
  generalize q * c = z at *
  omega
theorem Divs.add_lo {n m c q l x y : Nat} (h : Divs n c q l) (h' : Divs m c x y) (hl : ¬ c ≤ l + y) : Divs (n + m) c (q + x) (l + y) := by
  obtain ⟨h1, h2⟩ := h
  obtain ⟨h3, h4⟩ := h'
  refine ⟨?_, by omega⟩
  rw [Nat.add_mul]
  generalize q * c = z at *
  generalize x * c = u at *
  omega
theorem Divs.add_hi {n m c q l x y : Nat} (h : Divs n c q l) (h' : Divs m c x y) (hl : c ≤ l + y) : Divs (n + m) c (q + x + 1) (l + y - c) := by
  obtain ⟨h1, h2⟩ := h
  obtain ⟨h3, h4⟩ := h'
  refine ⟨?_, by omega⟩
  rw [Nat.add_mul, Nat.add_mul, Nat.one_mul]
  generalize q * c = z at *
  generalize x * c = u at *
  omega

/-- What Two answers. -/
def TwoP (a b c : Nat) (e : Ending) : Prop :=
  (a * b / c ≤ 4000000000000000000 ∧ e = .returned (.tuple #[.int .i64 ((a * b / c : Nat) : Int), .int .i64 ((a * b % c : Nat) : Int), .bool true])) ∨ (4000000000000000000 < a * b / c ∧ e = .returned (.tuple #[.int .i64 0, .int .i64 0, .bool false]))
theorem fin_yes {a b c q l : Nat} (h : Divs (b * (a / 2 ^ 0)) c q l) (hq : q ≤ 4000000000000000000) : TwoP a b c (.returned (.tuple #[.int .i64 (q : Int), .int .i64 (l : Int), .bool true])) := by
  rw [Nat.pow_zero, Nat.div_one, Nat.mul_comm] at h
  obtain ⟨h1, h2⟩ := h.eq
  exact .inl ⟨by rw [h1]; exact hq, by rw [h1, h2]⟩
theorem fin_no {a b c v q l : Nat} (hva : v ≤ a) (h : Divs (b * v) c q l) (hq : 4000000000000000000 < q) : TwoP a b c (.returned (.tuple #[.int .i64 0, .int .i64 0, .bool false])) := by
  obtain ⟨h1, _⟩ := h.eq
  have h2 : b * v / c ≤ a * b / c := Nat.div_le_div_right (by rw [Nat.mul_comm a]; exact Nat.mul_le_mul_left _ hva)
  exact .inr ⟨by omega, rfl⟩
set_option maxRecDepth 100000 in
set_option maxHeartbeats 4000000 in
theorem two_any (a b c : Nat) (ha : a ≤ 9223372036854775807) (hb : b ≤ 9223372036854775807) (hc : c ≤ 9223372036854775807) (hc0 : 0 < c) (w : World) :
    Calls Tryd.prog 29 #[.int .i64 a, .int .i64 b, .int .i64 c] w fun e w' => TwoP a b c e ∧ w' = w := by
  obtain ⟨wh, hwh⟩ : ∃ z, b / c = z := ⟨_, rfl⟩
  obtain ⟨re, hre⟩ : ∃ z, b % c = z := ⟨_, rfl⟩
  have hdb : Divs b c wh re := ⟨by rw [← hwh, ← hre, Nat.mul_comm]; exact Nat.div_add_mod b c, by rw [← hre]; exact Nat.mod_lt _ hc0⟩
  have hwb : wh ≤ 9223372036854775807 := by rw [← hwh]; exact Nat.le_trans (Nat.div_le_self _ _) hb
  have hrb : re < c := hdb.2
  have C1 : IntKind.u64.wrap (b : Int) = (b : Int) := Mul64.wrapN _ (by omega)
  have C2 : IntKind.u64.wrap (c : Int) = (c : Int) := Mul64.wrapN _ (by omega)
  have C3 : IntKind.u64.wrap ((b : Int) / (c : Int)) = (wh : Int) := by rw [← Int.natCast_ediv, hwh]; exact Mul64.wrapN _ (by omega)
  have C4 : (b : Int) % (c : Int) = (re : Int) := by rw [← Int.natCast_emod, hre]
  have hcz : ¬ ((c : Int) = 0) := by omega
  have HDB := hide hdb
  clear hwh hre hdb
  go_enter Tryd.func29, Tryd.ntmps29
  go_wp2_with fail
  rw [C4]
  go_loop [9, 10, 14] (fun x y k => ∃ j q l : Nat, j ≤ 63 ∧ x = .int .u64 (q : Int) ∧ y = .int .u64 (l : Int) ∧ k = .int .i64 ((j : Int) - 1) ∧ Divs (b * (a / 2 ^ j)) c q l ∧ q ≤ 4000000000000000000) (fun _ _ k => (RowKit.intOf k + 1).toNat)
  case atStart =>
    refine ⟨63, 0, 0, by omega, rfl, rfl, rfl, ?_, by omega⟩
    rw [Nat.div_eq_of_lt (by omega : a < 2 ^ 63), Nat.mul_zero]
    exact ⟨by rw [Nat.zero_mul], hc0⟩
  case round =>
    obtain ⟨j, q, l, hj, rfl, rfl, rfl, hd, hq4⟩ := hrel
    have hlc := hd.2
    rcases Nat.eq_zero_or_pos j with h0 | h0
    · subst h0
      have HD := hide hd
      clear hd
      have hl1 : IntKind.i64.wrap (l : Int) = (l : Int) := IntWalk.i64_in _ (by omega)
      go_wp2_with fail
      go_ret3
      exact ⟨fin_yes HD.out hq4, rfl⟩
    · obtain ⟨k, rfl⟩ : ∃ k, j = k + 1 := ⟨j - 1, by omega⟩
      have hk0 : (0 : Int) ≤ (k : Int) := by omega
      have hk1 : ((k + 1 : Nat) : Int) - 1 = (k : Int) := by omega
      rw [hk1]
      obtain ⟨v, hv⟩ : ∃ v, a / 2 ^ k = v := ⟨_, rfl⟩
      have V1 : (a : Int) / 2 ^ k = (v : Int) := by rw [← hv, Int.natCast_ediv, Int.natCast_pow]; rfl
      have hva : v ≤ a := by rw [← hv]; exact Nat.div_le_self _ _
      have hv2 : a / 2 ^ (k + 1) = v / 2 := by rw [Nat.pow_succ, ← Nat.div_div_eq_div_mul, hv]
      rw [hv2] at hd
      have HD := hide hd
      have HV := hide hv
      clear hd hv hv2 h0
      have hv0 : v % 2 = 0 → b * v = 2 * (b * (v / 2)) := fun h => by
        rw [Nat.mul_left_comm, show 2 * (v / 2) = v by omega]
      have hv1 : v % 2 = 1 → b * v = 2 * (b * (v / 2)) + b := fun h => by
        rw [Nat.mul_left_comm]
        conv => lhs; rw [show v = 2 * (v / 2) + 1 by omega]
        rw [Nat.mul_add, Nat.mul_one]
      have HV0 := hide hv0
      have HV1 := hide hv1
      clear hv0 hv1
      by_cases hl2 : c ≤ 2 * l
      · have hl2' : (c : Int) ≤ 2 * (l : Int) := by omega
        rcases Nat.mod_two_eq_zero_or_one v with hb0 | hb1
        · have hb0' : (v : Int) % 2 = 0 := by omega
          have HF := hide (show Divs (b * v) c (2 * q + 1) (2 * l - c) from by rw [HV0.out hb0]; exact HD.out.two_hi hl2)
          by_cases hq5 : 4000000000000000000 < 2 * q + 1
          · have hq5' : (4000000000000000000 : Int) < 2 * (q : Int) + 1 := by omega
            have HR := hide (fin_no hva HF.out hq5)
            clear hq5
            go_wp2_with fail
            go_ret3
            exact ⟨HR.out, rfl⟩
          · have hq5' : ¬ (4000000000000000000 : Int) < 2 * (q : Int) + 1 := by omega
            go_wp2_with fail
            go_round
            case rel => exact ⟨k, 2 * q + 1, 2 * l - c, by omega, by first | rfl | (congr 1; omega), by first | rfl | (congr 1; omega), rfl, by rw [HV.out]; exact HF.out, by omega⟩
            case measure => simp [RowKit.intOf] <;> omega
        · have hb1' : (v : Int) % 2 = 1 := by omega
          by_cases hl3 : c ≤ 2 * l - c + re
          · have hl3' : (c : Int) ≤ 2 * (l : Int) - (c : Int) + (re : Int) := by omega
            have HF := hide (show Divs (b * v) c (2 * q + 1 + wh + 1) (2 * l - c + re - c) from by rw [HV1.out hb1]; exact (HD.out.two_hi hl2).add_hi HDB.out hl3)
            by_cases hq5 : 4000000000000000000 < 2 * q + 1 + wh + 1
            · have hq5' : (4000000000000000000 : Int) < 2 * (q : Int) + 1 + (wh : Int) + 1 := by omega
              have HR := hide (fin_no hva HF.out hq5)
              clear hq5
              go_wp2_with fail
              go_ret3
              exact ⟨HR.out, rfl⟩
            · have hq5' : ¬ (4000000000000000000 : Int) < 2 * (q : Int) + 1 + (wh : Int) + 1 := by omega
              go_wp2_with fail
              go_round
              case rel => exact ⟨k, 2 * q + 1 + wh + 1, 2 * l - c + re - c, by omega, by first | rfl | (congr 1; omega), by first | rfl | (congr 1; omega), rfl, by rw [HV.out]; exact HF.out, by omega⟩
              case measure => simp [RowKit.intOf] <;> omega
          · have hl3' : ¬ (c : Int) ≤ 2 * (l : Int) - (c : Int) + (re : Int) := by omega
            have HF := hide (show Divs (b * v) c (2 * q + 1 + wh) (2 * l - c + re) from by rw [HV1.out hb1]; exact (HD.out.two_hi hl2).add_lo HDB.out hl3)
            by_cases hq5 : 4000000000000000000 < 2 * q + 1 + wh
            · have hq5' : (4000000000000000000 : Int) < 2 * (q : Int) + 1 + (wh : Int) := by omega
              have HR := hide (fin_no hva HF.out hq5)
              clear hq5
              go_wp2_with fail
              go_ret3
              exact ⟨HR.out, rfl⟩
            · have hq5' : ¬ (4000000000000000000 : Int) < 2 * (q : Int) + 1 + (wh : Int) := by omega
              go_wp2_with fail
              go_round
              case rel => exact ⟨k, 2 * q + 1 + wh, 2 * l - c + re, by omega, by first | rfl | (congr 1; omega), by first | rfl | (congr 1; omega), rfl, by rw [HV.out]; exact HF.out, by omega⟩
              case measure => simp [RowKit.intOf] <;> omega
      · have hl2' : ¬ (c : Int) ≤ 2 * (l : Int) := by omega
        rcases Nat.mod_two_eq_zero_or_one v with hb0 | hb1
        · have hb0' : (v : Int) % 2 = 0 := by omega
          have HF := hide (show Divs (b * v) c (2 * q) (2 * l) from by rw [HV0.out hb0]; exact HD.out.two_lo hl2)
          by_cases hq5 : 4000000000000000000 < 2 * q
          · have hq5' : (4000000000000000000 : Int) < 2 * (q : Int) := by omega
            have HR := hide (fin_no hva HF.out hq5)
            clear hq5
            go_wp2_with fail
            go_ret3
            exact ⟨HR.out, rfl⟩
          · have hq5' : ¬ (4000000000000000000 : Int) < 2 * (q : Int) := by omega
            go_wp2_with fail
            go_round
            case rel => exact ⟨k, 2 * q, 2 * l, by omega, by first | rfl | (congr 1; omega), by first | rfl | (congr 1; omega), rfl, by rw [HV.out]; exact HF.out, by omega⟩
            case measure => simp [RowKit.intOf] <;> omega
        · have hb1' : (v : Int) % 2 = 1 := by omega
          by_cases hl3 : c ≤ 2 * l + re
          · have hl3' : (c : Int) ≤ 2 * (l : Int) + (re : Int) := by omega
            have HF := hide (show Divs (b * v) c (2 * q + wh + 1) (2 * l + re - c) from by rw [HV1.out hb1]; exact (HD.out.two_lo hl2).add_hi HDB.out hl3)
            by_cases hq5 : 4000000000000000000 < 2 * q + wh + 1
            · have hq5' : (4000000000000000000 : Int) < 2 * (q : Int) + (wh : Int) + 1 := by omega
              have HR := hide (fin_no hva HF.out hq5)
              clear hq5
              go_wp2_with fail
              go_ret3
              exact ⟨HR.out, rfl⟩
            · have hq5' : ¬ (4000000000000000000 : Int) < 2 * (q : Int) + (wh : Int) + 1 := by omega
              go_wp2_with fail
              go_round
              case rel => exact ⟨k, 2 * q + wh + 1, 2 * l + re - c, by omega, by first | rfl | (congr 1; omega), by first | rfl | (congr 1; omega), rfl, by rw [HV.out]; exact HF.out, by omega⟩
              case measure => simp [RowKit.intOf] <;> omega
          · have hl3' : ¬ (c : Int) ≤ 2 * (l : Int) + (re : Int) := by omega
            have HF := hide (show Divs (b * v) c (2 * q + wh) (2 * l + re) from by rw [HV1.out hb1]; exact (HD.out.two_lo hl2).add_lo HDB.out hl3)
            by_cases hq5 : 4000000000000000000 < 2 * q + wh
            · have hq5' : (4000000000000000000 : Int) < 2 * (q : Int) + (wh : Int) := by omega
              have HR := hide (fin_no hva HF.out hq5)
              clear hq5
              go_wp2_with fail
              go_ret3
              exact ⟨HR.out, rfl⟩
            · have hq5' : ¬ (4000000000000000000 : Int) < 2 * (q : Int) + (wh : Int) := by omega
              go_wp2_with fail
              go_round
              case rel => exact ⟨k, 2 * q + wh, 2 * l + re, by omega, by first | rfl | (congr 1; omega), by first | rfl | (congr 1; omega), rfl, by rw [HV.out]; exact HF.out, by omega⟩
              case measure => simp [RowKit.intOf] <;> omega
end Go.Proofs.YtndfgglnhkdciaaDoor
