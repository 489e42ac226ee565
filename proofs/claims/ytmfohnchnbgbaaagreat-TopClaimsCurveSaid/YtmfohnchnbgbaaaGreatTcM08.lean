/- Part 8 of the proof. -/
import Derived.BigQuiet
import Derived.Deep.QuietTactic
import Derived.Deep.DeepCutAuto
import Derived.Deep.RegionLaw
import Derived.Laws.CopyOwn
import Derived.Deep.OwnRows
import Derived.Test.YtmfohnchnbgbaaaGreatTcM02
import Derived.Test.YtmfohnchnbgbaaaGreatTcM04
/- The years of days: the program, and the document. -/
namespace Go.Proofs.YtmfohnchnbgbaaaGreat
open Go.RowKit

/-- How many days are ahead of year y. -/
def aheadI (y : Int) : Int := (y - 1601) * 365 + (y - 1601) / 4 - (y - 1601) / 100 + (y - 1601) / 400
set_option maxHeartbeats 1000000 in
theorem ahead_any (y : Int) (h1 : 1601 ≤ y) (h2 : y ≤ 2402) (w : World) : Calls Tryz.prog 34 #[.int .i64 y] w fun e w' => e = .returned (.int .i64 (aheadI y)) ∧ w = w' := by
  go_enter Tryz.func34, Tryz.ntmps34
  go_wp2
  go_ret
  exact ⟨ret_int (by simp only [aheadI]), rfl⟩
theorem is_any (n : Int) (w : World) : Calls Tryz.prog 33 #[.int .i64 n] w fun e w' => e = .returned (.bool (decide (1 ≤ n ∧ n ≤ 292194))) ∧ w = w' := by
  go_enter Tryz.func33, Tryz.ntmps33
  go_wp2
  all_goals
    go_ret
    exact ⟨ret_bool (by rw [Bool.eq_iff_iff]; simp; omega), rfl⟩
set_option maxHeartbeats 1000000 in
theorem year_any (n : Int) (w : World) :
    Calls Tryz.prog 13 #[.int .i64 n] w fun e w' => ((1 ≤ n ∧ n ≤ 292194 → ∃ y, e = .returned (.tuple #[.int .i64 y, .int .i64 0]) ∧ 1601 ≤ y ∧ y ≤ 2400 ∧ aheadI y < n ∧ n ≤ aheadI (y + 1)) ∧ (¬(1 ≤ n ∧ n ≤ 292194) → e = .returned (.tuple #[.int .i64 0, .int .i64 3]))) ∧ w = w' := by
  by_cases h : 1 ≤ n ∧ n ≤ 292194
  · have hh := hide h
    obtain ⟨h1, h2⟩ := h
    have hdec : decide (1 ≤ n ∧ n ≤ 292194) = true := by simp; omega
    have HD := hide hdec
    clear hdec
    go_enter Tryz.func13, Tryz.ntmps13
    go_wp2_with (go_at_call 33; refine (is_any _ _).mono ?_; rw [HD.out]; rintro e w' ⟨rfl, rfl⟩)
    go_loop [4] (fun t => ∃ y : Int, 1601 ≤ y ∧ y ≤ 2401 ∧ n ≤ aheadI (y + 1) ∧ t = .int .i64 y) (fun t => (intOf t).toNat)
    case atStart => exact ⟨_, by omega, by omega, by unfold aheadI; omega, rfl⟩
    case round =>
      obtain ⟨y, hy1, hy2, hy3, rfl⟩ := hrel
      by_cases hc : n ≤ aheadI y
      · have hy : 1602 ≤ y := by
          rcases Int.lt_or_le 1601 y with hlt | hle
          · omega
          · obtain rfl : y = 1601 := by omega
            simp [aheadI] at hc
            omega
        go_wp2_with (go_at_call 34; refine (ahead_any _ (by omega) (by omega) _).mono ?_; rintro e w' ⟨rfl, rfl⟩)
        go_round
        case rel => exact ⟨y - 1, by omega, by omega, by rw [show y - 1 + 1 = y by omega]; exact hc, rfl⟩
        case measure => simp [intOf]; omega
      · have hc' : aheadI y < n := by omega
        have hy : y ≤ 2400 := by
          rcases Int.lt_or_le y 2401 with hlt | hle
          · omega
          · obtain rfl : y = 2401 := by omega
            simp [aheadI] at hc'
            omega
        go_wp2_with (go_at_call 34; refine (ahead_any _ (by omega) (by omega) _).mono ?_; rintro e w' ⟨rfl, rfl⟩)
        go_ret2
        exact ⟨⟨fun _ => ⟨y, rfl, hy1, hy, hc', hy3⟩, fun h => absurd hh.out h⟩, rfl⟩
  · have hh := hide h
    have hdec : decide (1 ≤ n ∧ n ≤ 292194) = false := by simp; omega
    have HD := hide hdec
    clear hdec h
    go_enter Tryz.func13, Tryz.ntmps13
    go_wp2_with (go_at_call 33; refine (is_any _ _).mono ?_; rw [HD.out]; rintro e w' ⟨rfl, rfl⟩)
    go_ret2
    exact ⟨⟨fun h => absurd h hh.out, fun _ => rfl⟩, rfl⟩
theorem ahead_q (q : Int) : aheadI (1601 + q) = q * 365 + q / 4 - q / 100 + q / 400 := by
  unfold aheadI
  rw [show 1601 + q - 1601 = q by omega]
theorem ahead_q1 (q : Int) : aheadI (1601 + q - 1) = (q - 1) * 365 + (q - 1) / 4 - (q - 1) / 100 + (q - 1) / 400 := by
  rw [show 1601 + q - 1 = 1601 + (q - 1) by omega, ahead_q]
/-- The year of a day, as a number. -/
def yearI (n : Int) : Int := if n ≤ aheadI (1601 + (n - 1) / 365) then 1601 + (n - 1) / 365 - 1 else 1601 + (n - 1) / 365
theorem yearI_ok (n : Int) (h1 : 1 ≤ n) (h2 : n ≤ 292194) : 1601 ≤ yearI n ∧ yearI n ≤ 2400 ∧ aheadI (yearI n) < n ∧ n ≤ aheadI (yearI n + 1) := by
  obtain ⟨q, hq⟩ : ∃ q, (n - 1) / 365 = q := ⟨_, rfl⟩
  unfold yearI
  rw [hq]
  have hq1 : 365 * q ≤ n - 1 ∧ n - 1 < 365 * q + 365 := by omega
  clear hq
  split
  · rename_i h
    rw [ahead_q] at h
    rw [show 1601 + q - 1 + 1 = 1601 + q by omega, ahead_q, ahead_q1]
    omega
  · rename_i h
    rw [ahead_q] at h
    rw [show 1601 + q + 1 = 1601 + (q + 1) by omega, ahead_q, ahead_q]
    omega
theorem ahead_lt {y z : Int} (h1 : 1601 ≤ y) (h : y < z) : aheadI y < aheadI z := by
  obtain ⟨p, rfl⟩ : ∃ p, y = 1601 + p := ⟨y - 1601, by omega⟩
  obtain ⟨q, rfl⟩ : ∃ q, z = 1601 + q := ⟨z - 1601, by omega⟩
  rw [ahead_q, ahead_q]
  omega
theorem year_uniq {y z n : Int} (hy : 1601 ≤ y) (hz : 1601 ≤ z) (h1 : aheadI y < n) (h2 : n ≤ aheadI (y + 1)) (h3 : aheadI z < n) (h4 : n ≤ aheadI (z + 1)) : y = z := by
  rcases Int.lt_trichotomy y z with h | h | h
  · rcases Int.lt_or_le (y + 1) z with h' | h'
    · have := ahead_lt (by omega) h'
      omega
    · have e : z = y + 1 := by omega
      rw [← e] at h2
      omega
  · exact h
  · rcases Int.lt_or_le (z + 1) y with h' | h'
    · have := ahead_lt (by omega) h'
      omega
    · have e : y = z + 1 := by omega
      rw [← e] at h4
      omega
theorem year_val (n : Int) (w : World) (h1 : 1 ≤ n) (h2 : n ≤ 292194) : Calls Tryz.prog 13 #[.int .i64 n] w fun e w' => e = .returned (.tuple #[.int .i64 (yearI n), .int .i64 0]) ∧ w = w' :=
  (year_any n w).mono fun _ _ ⟨⟨hy, _⟩, hw⟩ => by
    obtain ⟨y, he, a, b, c, d⟩ := hy ⟨h1, h2⟩
    obtain ⟨a', b', c', d'⟩ := yearI_ok n h1 h2
    rw [year_uniq a a' c d c' d'] at he
    exact ⟨he, hw⟩
theorem year_bad (n : Int) (w : World) (h : ¬(1 ≤ n ∧ n ≤ 292194)) : Calls Tryz.prog 13 #[.int .i64 n] w fun e w' => e = .returned (.tuple #[.int .i64 0, .int .i64 3]) ∧ w = w' :=
  (year_any n w).mono fun _ _ ⟨⟨_, hn⟩, hw⟩ => ⟨hn h, hw⟩
theorem ahead0 : aheadI 1601 = 0 := by simp [aheadI]
/-- A day's year, or 0. -/
def yrV (n : Int) : Int := if 1 ≤ n ∧ n ≤ 292194 then yearI n else 0
def yrE (n : Int) : Int := if 1 ≤ n ∧ n ≤ 292194 then 0 else 3
theorem year_v (n : Int) (w : World) : Calls Tryz.prog 13 #[.int .i64 n] w fun e w' => e = .returned (.tuple #[.int .i64 (yrV n), .int .i64 (yrE n)]) ∧ w = w' := by
  by_cases h : 1 ≤ n ∧ n ≤ 292194
  · rw [yrV, yrE, if_pos h, if_pos h]; exact year_val n w h.1 h.2
  · rw [yrV, yrE, if_neg h, if_neg h]; exact year_bad n w h
end Go.Proofs.YtmfohnchnbgbaaaGreat

/- Rows: what is amiss with one; how they come in. -/
namespace Go.Proofs.YtmfohnchnbgbaaaGreat
open Go.ChangeShapes Go.WideShapes Go.ChangeAt Go.RowKit

/-- A row: the day of the loss, the day it was booked, how much. -/
structure R3 where
  a : Int
  b : Int
  m : Int
def enc3 (x : R3) : List Value := [.int .i64 x.a, .int .i64 x.b, .int .i64 x.m]
section
variable {H : Type} {enc : TypeId × Value → H} {W : World} {r : Reach} {b0 : Nat} {v : Value} {d : DataW H} {p : List MemPlace}
end
theorem Sl.r3 {w : World} {B k : Nat} {A : Option Addr} {l : List R3} {x : R3} (h : Sl w B 3 A (l.map enc3)) (hx : l[k]? = some x) :
    ∃ b off, A = some ⟨b, off, none⟩ ∧ b < B ∧ w.cell? ⟨b, off + k * 3, none⟩ = some (.int .i64 x.a) ∧ w.cell? ⟨b, off + k * 3 + 1, none⟩ = some (.int .i64 x.b) ∧ w.cell? ⟨b, off + k * 3 + 2, none⟩ = some (.int .i64 x.m) := by
  obtain ⟨b, off, hA, hb, hc⟩ := h k (enc3 x) (by simp [hx])
  exact ⟨b, off, hA, hb, hc 0 _ rfl, hc 1 _ rfl, hc 2 _ rfl⟩

def moneyB (m : Int) : Bool := decide (0 ≤ m ∧ m ≤ 1000000000000000)
/-- What is amiss with a row. -/
def chk (x : R3) : Int := if ¬(1 ≤ x.a ∧ x.a ≤ 292194 ∧ 1 ≤ x.b ∧ x.b ≤ 292194 ∧ 0 ≤ x.m ∧ x.m ≤ 1000000000000000) then 1 else if x.b < x.a then 4 else 0
theorem money_any (m : Int) (w : World) : Calls Tryz.prog 69 #[.int .i64 m] w fun e w' => e = .returned (.bool (moneyB m)) ∧ w = w' := by
  go_enter Tryz.func69, Tryz.ntmps69
  go_wp2
  all_goals
    go_ret
    exact ⟨ret_bool (by rw [Bool.eq_iff_iff]; simp [moneyB]; omega), rfl⟩

set_option maxHeartbeats 2000000 in
theorem check_any (a b m : Int) (w : World) : Calls Tryz.prog 31 #[.agg #[.int .i64 a, .int .i64 b, .int .i64 m]] w fun e w' => e = .returned (.int .i64 (chk ⟨a, b, m⟩)) ∧ Below w.heap.size w w' := by
  rcases (show a < 1 ∨ (1 ≤ a ∧ 292194 < a) ∨ (1 ≤ a ∧ a ≤ 292194 ∧ b < 1) ∨ (1 ≤ a ∧ a ≤ 292194 ∧ 1 ≤ b ∧ 292194 < b) ∨ (1 ≤ a ∧ a ≤ 292194 ∧ 1 ≤ b ∧ b ≤ 292194) by omega) with h | ⟨h, h1⟩ | ⟨h, h1, h2⟩ | ⟨h, h1, h2, h3⟩ | ⟨h, h1, h2, h3⟩
  iterate 4
    · have e : chk ⟨a, b, m⟩ = 1 := by rw [chk, if_pos (by simp only; omega)]
      have E := hide e
      clear e
      go_enter Tryz.func31, Tryz.ntmps31
      go_wp2_with fail
      go_ret
      exact ⟨by rw [E.out]; rfl, (Below.refl _ _).alloc (Nat.le_refl _) _⟩
  cases hm : moneyB m
  · have e : chk ⟨a, b, m⟩ = 1 := by
      simp only [moneyB, decide_eq_false_iff_not] at hm
      rw [chk, if_pos (by simp only; omega)]
    have E := hide e
    clear e
    go_enter Tryz.func31, Tryz.ntmps31
    go_wp2_with (go_at_call 69; refine (money_any _ _).mono ?_; rintro e w' ⟨rfl, rfl⟩)
    go_ret
    exact ⟨by rw [E.out]; rfl, (Below.refl _ _).alloc (Nat.le_refl _) _⟩
  · by_cases hba : b < a
    · have e : chk ⟨a, b, m⟩ = 4 := by
        simp only [moneyB, decide_eq_true_eq] at hm
        rw [chk, if_neg (by simp only; omega), if_pos hba]
      have E := hide e
      clear e
      go_enter Tryz.func31, Tryz.ntmps31
      go_wp2_with (go_at_call 69; refine (money_any _ _).mono ?_; rintro e w' ⟨rfl, rfl⟩)
      go_ret
      exact ⟨by rw [E.out]; rfl, (Below.refl _ _).alloc (Nat.le_refl _) _⟩
    · have e : chk ⟨a, b, m⟩ = 0 := by
        simp only [moneyB, decide_eq_true_eq] at hm
        rw [chk, if_neg (by simp only; omega), if_neg hba]
      have E := hide e
      clear e
      go_enter Tryz.func31, Tryz.ntmps31
      go_wp2_with (go_at_call 69; refine (money_any _ _).mono ?_; rintro e w' ⟨rfl, rfl⟩)
      go_ret
      exact ⟨by rw [E.out]; rfl, (Below.refl _ _).alloc (Nat.le_refl _) _⟩

end Go.Proofs.YtmfohnchnbgbaaaGreat

/- The last cells, the document's; two rows of numbers that are one. -/
namespace Go.Proofs.YtmfohnchnbgbaaaGreat
open Go.RowKit

set_option maxHeartbeats 1000000 in
theorem sameI_any (A A' : Option Addr) (n cap cap' : Nat) (l : List Int) (w : World) (hs : SV w 1 A n cap (l.map encI)) (hs' : SV w 1 A' n cap' (l.map encI)) (hm : n ≤ 9223372036854775806) :
    Calls Tryz.prog 14 #[.slice A n cap, .slice A' n cap'] w fun e w' => e = .returned (.bool true) ∧ Below w.heap.size w w' := by
  have hn : l.length = n := by have := hs.len; simpa using this
  subst hn
  have HL := hide hs.sl
  have HL' := hide hs'.sl
  clear hs hs'
  go_enter Tryz.func14, Tryz.ntmps14
  go_wp2_with fail
  go_loopw [5] (fun i wr => ∃ k : Nat, k ≤ l.length ∧ i = .int .i64 k ∧ Below w.heap.size w wr) (fun i _ => l.length - (intOf i).toNat)
  case atStart => exact ⟨0, Nat.zero_le _, rfl, Below.refl _ _⟩
  case round =>
    obtain ⟨k, hk, rfl, hb⟩ := hrel
    by_cases hlt : k < l.length
    · obtain ⟨v, hx⟩ := get_of hlt
      obtain ⟨bb, off, rfl, hbl, hc⟩ := ((HL.out.below hb).more hb.size).i hx
      obtain ⟨bb', off', rfl, hbl', hd⟩ := ((HL'.out.below hb).more hb.size).i hx
      have hk0 : (0 : Int) ≤ (k : Int) := by omega
      have hk1 : (k : Int) < (l.length : Int) := by omega
      clear hx
      go_wp2_with fail
      go_quiet (fail)
      go_wp2_with fail
      go_roundw
      case rel => exact ⟨k + 1, by omega, by go_num, bel_drewN hb _⟩
      case measure => simp [intOf]; omega
    · obtain rfl : k = l.length := by omega
      go_wp2_with fail
      go_ret
      exact ⟨rfl, hb⟩

end Go.Proofs.YtmfohnchnbgbaaaGreat

/- A row with more in it, from one cell on: the document's. -/
namespace Go.Proofs.YtmfohnchnbgbaaaGreat
open Go.RowKit

def moreF (dev amt : Int) (k : Nat) (v : Int) : Int := if dev ≤ (k : Int) then v + amt else v
def moreL (dev amt : Int) (l : List Int) : List Int := l.mapIdx (moreF dev amt)
def capB (l : List Int) : Bool := l.all fun v => decide (v ≤ 100000000000000000)
theorem moreL_len (dev amt : Int) (l : List Int) : (moreL dev amt l).length = l.length := by simp [moreL]
theorem moreL_get {dev amt : Int} {l : List Int} {k : Nat} {v : Int} (h : l[k]? = some v) : (moreL dev amt l)[k]? = some (moreF dev amt k v) := by simp [moreL, h]
end Go.Proofs.YtmfohnchnbgbaaaGreat

/- An amount put into a triangle: what becomes of it; the document's state. -/
namespace Go.Proofs.YtmfohnchnbgbaaaGreat
open Go.RowKit

theorem SV.grown {w w' : World} {sz n cap : Nat} {A : Option Addr} {rows : List (List Value)} (h : SV w sz A n cap rows) {row : Option Nat} (hg : w.grownBy w' row) (hne : ∀ kk, blk A = some kk → some kk ≠ row) : SV w' sz A n cap rows := by
  refine ⟨fun i r hr => ?_, h.len, h.le, h.most, h.nil⟩
  obtain ⟨b, off, hA, hb, hc⟩ := h.sl i r hr
  refine ⟨b, off, hA, Nat.lt_of_lt_of_le hb hg.size, fun j u hu => ?_⟩
  rw [World.cell?_of_block (w := w)]
  · exact hc j u hu
  · exact hg.block b hb (hne b (by rw [hA]; rfl))
theorem SV.far {w : World} {sz n cap : Nat} {A : Option Addr} {rows : List (List Value)} (h : SV w sz A n cap rows) {p : Addr} (hp : ∀ kk, blk A = some kk → kk ≠ p.block) (u : Value) : SV (w.setCell p u) sz A n cap rows :=
  h.grown (grown_set w p u) (fun kk hk he => hp kk hk (by simpa using he))
theorem SV.lt {w : World} {sz n cap kk : Nat} {A : Option Addr} {rows : List (List Value)} (h : SV w sz A n cap rows) (hn : 0 < n) (hk : blk A = some kk) : kk < w.heap.size := by
  obtain ⟨r, hr⟩ := get_of (l := rows) (k := 0) (by rw [h.len]; exact hn)
  obtain ⟨b, off, hA, hb, _⟩ := h.sl 0 r hr
  subst hA
  simp [blk] at hk
  omega
theorem elRow : ElT Tryz.prog 34 39 1 24 := ElT.mk' (z := .slice none 0 0) Tryz.underlying34 (by kernel_rfl) rfl (by omega)
theorem okRw (M : List Rw) : RowsOk 1 (M.map encRw) := by
  intro r hr
  obtain ⟨x, _, rfl⟩ := List.mem_map.1 hr
  refine ⟨rfl, fun u hu => ?_⟩
  simp [encRw] at hu
  subst hu; rfl

def triC (f : Int) (A : Option Addr) (n cap : Nat) : Array Value := #[.int .i64 f, .slice A n cap]
/-- The state of a triangle that is being made: its box G, its outer slice (owned, from B on), its rows, apart from both. -/
structure Mat (w : World) (B G : Nat) (f : Int) (R : List Rw) (A : Option Addr) (cap : Nat) (wx : World) : Prop where
  o : Blk wx G 36 (triC f A R.length cap)
  own : OwnS wx B 39 1 A R.length cap (R.map encRw)
  rows : ∀ r ∈ R, SV wx 1 r.A r.l.length r.cap (r.l.map encI)
  apart : ∀ r ∈ R, ∀ kk, blk r.A = some kk → kk < wx.heap.size ∧ kk ≠ G ∧ blk A ≠ some kk
  GB : G < B
  base : w.heap.size ≤ G
  bel : Below w.heap.size w wx
section
variable {w wx wy : World} {B G : Nat} {f : Int} {R : List Rw} {A : Option Addr} {cap : Nat}
theorem Mat.below (h : Mat w B G f R A cap wx) (hb : Below wx.heap.size wx wy) : Mat w B G f R A cap wy :=
  ⟨h.o.below hb h.o.lt, h.own.below hb, fun r hr => (h.rows r hr).below hb, fun r hr kk hk => by have := h.apart r hr kk hk; exact ⟨Nat.lt_of_lt_of_le this.1 hb.size, this.2⟩, h.GB, h.base, chain h.bel hb⟩
theorem Mat.mv (h : Mat w B G f R A cap wx) : MV wx A R.length cap R := ⟨h.own.sv, h.rows⟩
end
end Go.Proofs.YtmfohnchnbgbaaaGreat

/- An amount put into a triangle: the document's walk. -/
namespace Go.Proofs.YtmfohnchnbgbaaaGreat
open Go.RowKit

def zeroT : Array Value := #[.int .i64 0, .slice none 0 0]
end Go.Proofs.YtmfohnchnbgbaaaGreat

/- A triangle that the program makes: its box, its rows, all the call's own; what a store, one row more, a row filled leave. -/
namespace Go.Proofs.YtmfohnchnbgbaaaGreat
open Go.RowKit

def cellsI (l : List Int) : Array Value := (l.map (Value.int .i64)).toArray
/-- A row whose block is known whole. -/
def RowB (w : World) (r : Rw) : Prop := ∃ b, r.A = some ⟨b, 0, none⟩ ∧ r.cap = r.l.length ∧ r.l.length ≤ 1000 ∧ Blk w b 3 (cellsI r.l)
theorem RowB.sv {w : World} {r : Rw} (h : RowB w r) : SV w 1 r.A r.l.length r.cap (r.l.map encI) := by
  obtain ⟨b, hA, hc, hm, hb⟩ := h
  refine ⟨fun i row hr => ⟨b, 0, hA, hb.lt, fun j u hu => ?_⟩, by simp, by omega, by simp only [maxLen]; omega, by simp [hA]⟩
  rw [List.getElem?_map] at hr
  obtain ⟨x, hx, rfl⟩ := Option.map_eq_some_iff.1 hr
  have : j = 0 := by have := lt_of_get hu; simp [encI] at this; exact this
  subst this
  simp [encI] at hu; subst hu
  rw [hb.cell]; simp [cellsI, hx]
theorem RowB.below {w w' : World} {r : Rw} (h : RowB w r) (hb : Below w.heap.size w w') : RowB w' r := by
  obtain ⟨b, hA, hc, hm, hk⟩ := h
  exact ⟨b, hA, hc, hm, hk.below hb hk.lt⟩
theorem RowB.grown {w w' : World} {row : Option Nat} {r : Rw} (h : RowB w r) (hg : w.grownBy w' row) (hne : blk r.A ≠ row) : RowB w' r := by
  obtain ⟨b, hA, hc, hm, hk⟩ := h
  exact ⟨b, hA, hc, hm, hk.grown hg (by rw [hA] at hne; exact hne)⟩
theorem RowB.lt {w : World} {r : Rw} (h : RowB w r) {kk : Nat} (hk : blk r.A = some kk) : kk < w.heap.size := by
  obtain ⟨b, hA, hc, hm, hb⟩ := h
  rw [hA] at hk; cases hk
  exact hb.lt
theorem set_same {α : Type} {l : List α} {i : Nat} {x : α} (h : l[i]? = some x) : l.set i x = l := by
  apply List.ext_getElem?
  intro j
  rw [List.getElem?_set]
  split
  · rename_i e; subst e
    rw [if_pos (lt_of_get h), h]
  · rfl
theorem MV.far {wx : World} {A : Option Addr} {n cap : Nat} {M : List Rw} (h : MV wx A n cap M) {p : Addr} (hA : ∀ kk, blk A = some kk → kk ≠ p.block) (hr : ∀ r ∈ M, ∀ kk, blk r.A = some kk → kk ≠ p.block) (u : Value) : MV (wx.setCell p u) A n cap M :=
  ⟨h.sv.far hA u, fun r hm => (h.rows r hm).far (hr r hm) u⟩

structure TS (w : World) (G : Nat) (f : Int) (R : List Rw) (E : List (List Value)) (A : Option Addr) (cap : Nat) (wx : World) : Prop where
  o : Blk wx G 36 (triC f A (R.length + E.length) cap)
  own : OwnS wx w.heap.size 39 1 A (R.length + E.length) cap (R.map encRw ++ E)
  rows : ∀ r ∈ R, RowB wx r
  ap : ∀ r ∈ R, ∀ kk, blk r.A = some kk → w.heap.size ≤ kk ∧ kk ≠ G ∧ blk A ≠ some kk
  dist : ∀ (i j : Nat) (r s : Rw), R[i]? = some r → R[j]? = some s → blk r.A = blk s.A → i = j
  ne : blk A ≠ some G
  base : w.heap.size ≤ G
  bel : Below w.heap.size w wx
section
variable {w wx wy : World} {G : Nat} {f : Int} {R : List Rw} {E : List (List Value)} {A : Option Addr} {cap : Nat}
theorem TS.below (h : TS w G f R E A cap wx) (hb : Below wx.heap.size wx wy) : TS w G f R E A cap wy :=
  ⟨h.o.below hb h.o.lt, h.own.below hb, fun r hr => (h.rows r hr).below hb, h.ap, h.dist, h.ne, h.base, chain h.bel hb⟩
theorem TS.mv (h : TS w G f R [] A cap wx) : MV wx A R.length cap R := ⟨by have := h.own.sv; simpa using this, fun r hr => (h.rows r hr).sv⟩
theorem TS.drew (h : TS w G f R E A cap wx) : TS w G f R E A cap wx.drew := h.below (Below.refl _ _).drew
theorem TS.own0 (h : TS w G f R [] A cap wx) : OwnS wx w.heap.size 39 1 A R.length cap (R.map encRw) := by have := h.own; simpa using this
theorem TS.o0 (h : TS w G f R [] A cap wx) : Blk wx G 36 (triC f A R.length cap) := by have := h.o; simpa using this
/-- The triangle behind stores into the boxes that were there before. -/
theorem TS.mvfar (h : TS w G f R [] A cap wx) {p q : Addr} (hp : p.block < w.heap.size) (hq : q.block < w.heap.size) (u v : Value) : MV ((wx.setCell p u).setCell q v) A R.length cap R := by
  have hA : ∀ kk, blk A = some kk → w.heap.size ≤ kk := fun kk hk => (h.own.lt kk hk).1
  have hR : ∀ r ∈ R, ∀ kk, blk r.A = some kk → w.heap.size ≤ kk := fun r hr kk hk => (h.ap r hr kk hk).1
  exact (h.mv.far (fun kk hk => by have := hA kk hk; omega) (fun r hr kk hk => by have := hR r hr kk hk; omega) u).far (fun kk hk => by have := hA kk hk; omega) (fun r hr kk hk => by have := hR r hr kk hk; omega) v
/-- A store into a row's cell. -/
theorem TS.put (h : TS w G f R E A cap wx) {i k b : Nat} {r : Rw} (hr : R[i]? = some r) (hb : r.A = some ⟨b, 0, none⟩) (u : Int) :
    TS w G f (R.set i ⟨r.A, r.l.set k u, r.cap⟩) E A cap (wx.setCell ⟨b, k, none⟩ (.int .i64 u)) := by
  have hm := List.mem_of_getElem? hr
  have hi := lt_of_get hr
  obtain ⟨h0, hG, hA⟩ := h.ap r hm b (by rw [hb]; rfl)
  have hmap : (R.set i ⟨r.A, r.l.set k u, r.cap⟩).map encRw = R.map encRw := by
    rw [List.map_set]
    exact set_same (by rw [List.getElem?_map, hr]; simp [encRw])
  have hget : ∀ j s, (R.set i ⟨r.A, r.l.set k u, r.cap⟩)[j]? = some s → ∃ s', R[j]? = some s' ∧ s.A = s'.A ∧ ((j = i ∧ s = ⟨r.A, r.l.set k u, r.cap⟩) ∨ (j ≠ i ∧ s = s')) := by
    intro j s hs
    rw [List.getElem?_set] at hs
    by_cases e : i = j
    · subst e
      rw [if_pos rfl, if_pos hi] at hs; cases hs
      exact ⟨r, hr, rfl, .inl ⟨rfl, rfl⟩⟩
    · rw [if_neg e] at hs
      exact ⟨s, hs, rfl, .inr ⟨fun he => e he.symm, rfl⟩⟩
  refine ⟨?_, ?_, fun s hs => ?_, fun s hs kk hk => ?_, fun p q s t hs ht he => ?_, h.ne, h.base, h.bel.setCell (p := ⟨b, k, none⟩) h0 _⟩
  · rw [List.length_set]; exact h.o.far (fun e => hG e.symm) _
  · rw [hmap, List.length_set]
    exact h.own.far (fun kk hk e => by rw [hk] at hA; exact hA (by rw [e])) _
  · obtain ⟨j, hj⟩ := List.mem_iff_getElem?.1 hs
    obtain ⟨s', hs', eA, h2⟩ := hget j s hj
    rcases h2 with ⟨rfl, rfl⟩ | ⟨hne, rfl⟩
    · obtain ⟨b', hA', hc, hm', hk⟩ := h.rows r hm
      rw [hb] at hA'; cases hA'
      refine ⟨b, hb, by simpa using hc, by simpa using hm', ?_⟩
      have := hk.set_ k (.int .i64 u)
      simpa [cellsI, List.map_set] using this
    · refine (h.rows s (List.mem_of_getElem? hs')).grown (grown_set _ _ _) (fun e => hne (h.dist j i s r hs' hr ?_))
      rw [e, hb]; rfl
  · obtain ⟨j, hj⟩ := List.mem_iff_getElem?.1 hs
    obtain ⟨s', hs', eA, _⟩ := hget j s hj
    exact h.ap s' (List.mem_of_getElem? hs') kk (by rw [← eA]; exact hk)
  · obtain ⟨s', hs', eA, _⟩ := hget p s hs
    obtain ⟨t', ht', eB, _⟩ := hget q t ht
    exact h.dist p q s' t' hs' ht' (by rw [← eA, ← eB]; exact he)
theorem get_app {α : Type} {l : List α} {x y : α} {i : Nat} (h : (l ++ [x])[i]? = some y) : l[i]? = some y ∨ (i = l.length ∧ y = x) := by
  by_cases hi : i < l.length
  · rw [List.getElem?_append_left hi] at h; exact .inl h
  · rw [List.getElem?_append_right (by omega)] at h
    have := lt_of_get h
    simp at this
    right
    have e : i = l.length := by omega
    subst e
    simp at h
    exact ⟨rfl, h.symm⟩
/-- One row more, appended. -/
theorem TS.add (h : TS w G f R [] A cap wx) {wo : World} (hwo : Below wx.heap.size wx wo) {r : Rw} (hr : RowB wo r) (hf : ∀ kk, blk r.A = some kk → wx.heap.size ≤ kk) {A2 : Option Addr} {c2 : Nat} {wb : World}
    (ho : OwnS wb w.heap.size 39 1 A2 (R.length + 1) c2 (R.map encRw ++ [r].map encRw)) (hg : wo.grownBy wb (blk A)) (hat : blk A2 = blk A ∨ blk A2 = some wo.heap.size) :
    TS w G f (R ++ [r]) [] A2 c2 (wb.setCell ⟨G, 1, none⟩ (.slice A2 (R.length + 1) c2)) := by
  have h1 := h.below hwo
  have hG : some G ≠ blk A := fun he => h1.ne he.symm
  have hGo : G < wo.heap.size := h1.o.lt
  have hGx : G < wx.heap.size := h.o.lt
  have hlt : ∀ s ∈ R, ∀ kk, blk s.A = some kk → kk < wx.heap.size := fun s hs kk hk => (h.rows s hs).lt hk
  have hAx : ∀ kk, blk A = some kk → kk < wx.heap.size := fun kk hk => (h.own.lt kk hk).2
  have hrw : ∀ kk, blk r.A = some kk → kk < wo.heap.size := fun kk hk => hr.lt hk
  have hbx := h.bel.size
  have hne2 : blk A2 ≠ some G := by
    rcases hat with e | e
    · rw [e]; exact h1.ne
    · rw [e]; intro e2; cases e2; omega
  refine ⟨?_, ?_, fun x hx => ?_, fun x hx kk hk => ?_, fun i j x y hx hy he => ?_, hne2, h.base, (h1.bel.grown hg h1.bel.size (fun j hj => (h1.own.lt j hj).1)).setCell (p := ⟨G, 1, none⟩) h.base _⟩
  · have := (h1.o.grown hg hG).set_ 1 (.slice A2 (R.length + 1) c2)
    simpa [triC] using this
  · have := ho.far (p := ⟨G, 1, none⟩) (fun k hk e => hne2 (by rw [hk]; exact congrArg some e)) (.slice A2 (R.length + 1) c2)
    simpa using this
  · rcases List.mem_append.1 hx with hx | hx
    · refine ((h1.rows x hx).grown hg (fun e => ?_)).grown (grown_set _ _ _) (fun e => ?_)
      · obtain ⟨b, hb, _⟩ := h1.rows x hx
        exact (h1.ap x hx b (by rw [hb]; rfl)).2.2 (by rw [← e, hb]; rfl)
      · exact (h1.ap x hx G e).2.1 rfl
    · simp at hx; subst hx
      refine (hr.grown hg (fun e => ?_)).grown (grown_set _ _ _) (fun e => ?_)
      · obtain ⟨b, hb, _⟩ := hr
        have h2 := hf b (by rw [hb]; rfl)
        have := hAx b (by rw [← e, hb]; rfl)
        omega
      · have := hf G e; omega
  · rcases List.mem_append.1 hx with hx | hx
    · obtain ⟨a1, a2, a3⟩ := h.ap x hx kk hk
      refine ⟨a1, a2, ?_⟩
      rcases hat with e | e
      · rw [e]; exact a3
      · rw [e]; intro e2; cases e2
        have := hlt x hx _ hk
        have := hwo.size
        omega
    · simp at hx; subst hx
      have h2 := hf kk hk
      have h3 := hrw kk hk
      refine ⟨by omega, by omega, ?_⟩
      rcases hat with e | e
      · rw [e]; intro e2; have := hAx kk e2; omega
      · rw [e]; intro e2; cases e2; omega
  · rcases get_app hx with gx | ⟨rfl, rfl⟩
    · rcases get_app hy with gy | ⟨rfl, rfl⟩
      · exact h.dist i j x y gx gy he
      · obtain ⟨b, hb, _⟩ := h.rows x (List.mem_of_getElem? gx)
        have h2 := hlt x (List.mem_of_getElem? gx) b (by rw [hb]; rfl)
        have := hf b (by rw [← he, hb]; rfl)
        omega
    · rcases get_app hy with gy | ⟨rfl, rfl⟩
      · obtain ⟨b, hb, _⟩ := h.rows y (List.mem_of_getElem? gy)
        have h2 := hlt y (List.mem_of_getElem? gy) b (by rw [hb]; rfl)
        have := hf b (by rw [he, hb]; rfl)
        omega
      · rfl
end
end Go.Proofs.YtmfohnchnbgbaaaGreat
