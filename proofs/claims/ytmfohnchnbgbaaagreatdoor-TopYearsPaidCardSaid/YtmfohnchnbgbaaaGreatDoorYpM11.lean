/- Part 11 of the proof. -/
import Derived.BigQuiet
import Derived.Deep.QuietTactic
import Derived.Deep.DeepCutAuto
import Derived.Deep.RegionLaw
import Derived.Test.YtmfohnchnbgbaaaGreatDoorYpM02
import Derived.Test.YtmfohnchnbgbaaaGreatDoorYpM04
import Derived.Test.YtmfohnchnbgbaaaGreatDoorYpM10
/- Histories: whether one may be. -/
namespace Go.Proofs.YtmfohnchnbgbaaaGreatDoor
open Go.RowKit

/-- A history. -/
structure Hi where
  id : Int
  bk : Int
  tm : Tm
  A : Option Addr
  cs : List Ch
  cap : Nat
def hiC (h : Hi) : Array Value := #[.int .i64 h.id, .int .i64 h.bk, .int .i64 h.tm.f, .int .i64 h.tm.t, .int .i64 h.tm.k, .int .i64 h.tm.v, .int .i64 h.tm.a, .int .i64 h.tm.z, .slice h.tm.A h.tm.l.length h.tm.cap, .slice h.A h.cs.length h.cap]
def encCh (c : Ch) : List Value := [.int .i64 c.b, .int .i64 c.d, .int .i64 c.k, .int .i64 c.rk, .int .i64 c.rv, .int .i64 c.ra, .int .i64 c.rz, .slice c.A c.l.length c.cap, .int .i64 c.way]
def okCh (c : Ch) : Prop := ok64 c.k ∧ ∀ x ∈ c.l, okCv x
structure HV (w : World) (h : Hi) : Prop where
  tm : SV w 5 h.tm.A h.tm.l.length h.tm.cap (h.tm.l.map encCv)
  ot : ∀ c ∈ h.tm.l, okCv c
  cs : SV w 9 h.A h.cs.length h.cap (h.cs.map encCh)
  cv : ∀ c ∈ h.cs, SV w 5 c.A c.l.length c.cap (c.l.map encCv)
  oc : ∀ c ∈ h.cs, okCh c
theorem HV.below {w w' : World} {h : Hi} (hv : HV w h) (hb : Below w.heap.size w w') : HV w' h := ⟨hv.tm.below hb, hv.ot, hv.cs.below hb, fun c hc => (hv.cv c hc).below hb, hv.oc⟩
theorem Sl.ch {w : World} {B k : Nat} {A : Option Addr} {M : List Ch} {c : Ch} (h : Sl w B 9 A (M.map encCh)) (hx : M[k]? = some c) :
    ∃ b off, A = some ⟨b, off, none⟩ ∧ b < B ∧ w.cell? ⟨b, off + k * 9, none⟩ = some (.int .i64 c.b) ∧ w.cell? ⟨b, off + k * 9 + 1, none⟩ = some (.int .i64 c.d) ∧ w.cell? ⟨b, off + k * 9 + 2, none⟩ = some (.int .i64 c.k) ∧
      w.cell? ⟨b, off + k * 9 + 3, none⟩ = some (.int .i64 c.rk) ∧ w.cell? ⟨b, off + k * 9 + 4, none⟩ = some (.int .i64 c.rv) ∧ w.cell? ⟨b, off + k * 9 + 5, none⟩ = some (.int .i64 c.ra) ∧
      w.cell? ⟨b, off + k * 9 + 6, none⟩ = some (.int .i64 c.rz) ∧ w.cell? ⟨b, off + k * 9 + 7, none⟩ = some (.slice c.A c.l.length c.cap) ∧ w.cell? ⟨b, off + k * 9 + 8, none⟩ = some (.int .i64 c.way) := by
  obtain ⟨b, off, hA, hb, hc⟩ := h k (encCh c) (by simp [hx])
  exact ⟨b, off, hA, hb, by simpa using hc 0 _ rfl, hc 1 _ rfl, hc 2 _ rfl, hc 3 _ rfl, hc 4 _ rfl, hc 5 _ rfl, hc 6 _ rfl, hc 7 _ rfl, hc 8 _ rfl⟩
def chB (h : Hi) (c : Ch) : Bool := changeB c && inB h.tm.f h.tm.t c.d
def chsB (h : Hi) (l : List Ch) : Bool := l.all (chB h)
def rightH (h : Hi) : Bool := chsB h h.cs && (termsB h.tm && decide (h.cs.length ≤ 2000))
theorem chsB_no {h : Hi} {l : List Ch} {k : Nat} {c : Ch} (hx : l[k]? = some c) (hc : chB h c = false) : chsB h l = false := by
  rw [chsB, List.all_eq_false]
  exact ⟨c, List.mem_of_getElem? hx, by simp [hc]⟩
theorem chsB_take {h : Hi} {l : List Ch} {k : Nat} {c : Ch} (hx : l[k]? = some c) : chsB h (l.take (k + 1)) = (chsB h (l.take k) && chB h c) := by rw [take_of hx]; simp [chsB]
theorem change_is {c : Ch} {B : Bool} (h : changeB c = B) (w : World) (hc : ok64 c.k) (hs : SV w 5 c.A c.l.length c.cap (c.l.map encCv)) (ho : ∀ x ∈ c.l, okCv x) :
    Calls Tryz.prog 67 #[.agg #[.int .i64 c.b, .int .i64 c.d, .int .i64 c.k, .int .i64 c.rk, .int .i64 c.rv, .int .i64 c.ra, .int .i64 c.rz, .slice c.A c.l.length c.cap, .int .i64 c.way]] w fun e w' => e = .returned (.bool B) ∧ Below w.heap.size w w' := by
  subst h; exact change_any c w hc hs ho
theorem in_is {f t d : Int} {B : Bool} (h : inB f t d = B) (w : World) :
    Calls Tryz.prog 68 #[.agg #[.int .i64 f, .int .i64 t], .int .i64 d] w fun e w' => e = .returned (.bool B) ∧ Below w.heap.size w w' := by
  subst h; exact in_any f t d w
theorem terms_is {x : Tm} {B : Bool} (h : termsB x = B) (w : World) (hs : SV w 5 x.A x.l.length x.cap (x.l.map encCv)) (ho : ∀ c ∈ x.l, okCv c) :
    Calls Tryz.prog 69 #[.agg #[.int .i64 x.f, .int .i64 x.t, .int .i64 x.k, .int .i64 x.v, .int .i64 x.a, .int .i64 x.z, .slice x.A x.l.length x.cap]] w fun e w' => e = .returned (.bool B) ∧ Below w.heap.size w w' := by
  subst h; exact terms_any x w hs ho
theorem hi_cells {w : World} {g : Nat} {h : Hi} (hB : Blk w g 64 (hiC h)) : w.cell? ⟨g, 0, none⟩ = some (.int .i64 h.id) ∧ w.cell? ⟨g, 1, none⟩ = some (.int .i64 h.bk) ∧ w.cell? ⟨g, 2, none⟩ = some (.int .i64 h.tm.f) ∧ w.cell? ⟨g, 3, none⟩ = some (.int .i64 h.tm.t) ∧ w.cell? ⟨g, 4, none⟩ = some (.int .i64 h.tm.k) ∧ w.cell? ⟨g, 5, none⟩ = some (.int .i64 h.tm.v) ∧ w.cell? ⟨g, 6, none⟩ = some (.int .i64 h.tm.a) ∧ w.cell? ⟨g, 7, none⟩ = some (.int .i64 h.tm.z) ∧ w.cell? ⟨g, 8, none⟩ = some (.slice h.tm.A h.tm.l.length h.tm.cap) ∧ w.cell? ⟨g, 9, none⟩ = some (.slice h.A h.cs.length h.cap) :=
  ⟨hB.cell 0, hB.cell 1, hB.cell 2, hB.cell 3, hB.cell 4, hB.cell 5, hB.cell 6, hB.cell 7, hB.cell 8, hB.cell 9⟩

set_option maxRecDepth 100000 in
set_option maxHeartbeats 4000000 in
theorem right_h (h : Hi) (w : World) (hv : HV w h) :
    Calls Tryz.prog 37 #[.agg #[.int .i64 h.id, .int .i64 h.bk, .int .i64 h.tm.f, .int .i64 h.tm.t, .int .i64 h.tm.k, .int .i64 h.tm.v, .int .i64 h.tm.a, .int .i64 h.tm.z, .slice h.tm.A h.tm.l.length h.tm.cap, .slice h.A h.cs.length h.cap]] w fun e w' => e = .returned (.bool (rightH h)) ∧ Below w.heap.size w w' := by
  obtain ⟨V, hV⟩ : ∃ V, rightH h = V := ⟨_, rfl⟩
  rw [hV]
  have HVV := hide hV
  clear hV
  have hle := hv.cs.le
  have hmo := hv.cs.most
  unfold maxLen at hmo
  obtain ⟨n, hn⟩ : ∃ n, h.cs.length = n := ⟨_, rfl⟩
  have HN := hide hn
  have HV := hide hv
  obtain ⟨w1, hw1⟩ : ∃ W, w.alloc (.cells (hiC h) 64) = W := ⟨_, rfl⟩
  have hB : Blk w1 w.heap.size 64 (hiC h) := by rw [← hw1]; exact Blk.new _ _ _
  have hb1 : Below w.heap.size w w1 := by rw [← hw1]; exact (Below.refl _ _).alloc (Nat.le_refl _) _
  obtain ⟨z0, z1, z2, z3, z4, z5, z6, z7, z8, z9⟩ := hi_cells hB
  have lt0 := hB.lt
  have HB := hide hB
  have H1 := hide hb1
  have HW := hide hw1
  rw [hn] at hle
  clear hB hb1 hw1 hv hn
  go_enter Tryz.func37, Tryz.ntmps37
  go_upto_region 1 with fail
  rw [show w.alloc (.cells #[.int .i64 h.id, .int .i64 h.bk, .int .i64 h.tm.f, .int .i64 h.tm.t, .int .i64 h.tm.k, .int .i64 h.tm.v, .int .i64 h.tm.a, .int .i64 h.tm.z, .slice h.tm.A h.tm.l.length h.tm.cap, .slice h.A h.cs.length h.cap] 64) = w1 from HW.out]
  rw [show h.cs.length = n from HN.out] at z9 ⊢
  go_wp2_with fail
  go_loopw [8] (fun i wr => ∃ k : Nat, k ≤ n ∧ i = .int .i64 k ∧ chsB h (h.cs.take k) = true ∧ Below w1.heap.size w1 wr) (fun i _ => n - (RowKit.intOf i).toNat)
  case atStart => exact ⟨0, Nat.zero_le _, rfl, rfl, Below.refl _ _⟩
  case round =>
    obtain ⟨k, hk, rfl, hc, hb⟩ := hrel
    have HC := hide hc
    have HBE := hide hb
    have y2 := kept hb z2
    have y3 := kept hb z3
    have y4 := kept hb z4
    have y5 := kept hb z5
    have y6 := kept hb z6
    have y7 := kept hb z7
    have y8 := kept hb z8
    have y9 := kept hb z9
    have hsz := hb.size
    clear hc
    by_cases hlt : k < n
    · obtain ⟨c, hx⟩ := get_of (l := h.cs) (k := k) (by rw [HN.out]; exact hlt)
      obtain ⟨b, off, hA, hbl, c0, c1, c2, c3, c4, c5, c6, c7, c8⟩ := (HV.out.cs.below (chain H1.out hb)).sl.ch hx
      rw [hA]
      rw [hA] at y9
      have hk0 : (0 : Int) ≤ (k : Int) := by omega
      have hk1 : (k : Int) < (n : Int) := by omega
      have hmem := List.mem_of_getElem? hx
      have HT := hide (chsB_take (h := h) hx)
      have HNO := hide (fun hq => chsB_no (h := h) hx hq)
      have HOK := hide (HV.out.oc c hmem)
      have HCV := hide ((HV.out.cv c hmem).below (chain H1.out hb))
      obtain ⟨b1, hb1⟩ : ∃ B, changeB c = B := ⟨_, rfl⟩
      obtain ⟨b2, hb2⟩ : ∃ B, inB h.tm.f h.tm.t c.d = B := ⟨_, rfl⟩
      have K1 := hide hb1
      have K2 := hide hb2
      have hz0 : w.heap.size < wr.heap.size := by omega
      clear hb hb1 hb2 hx hmem hA
      have hba : Below w.heap.size w (wr.alloc (.cells (chC c) 77)) := (chain H1.out HBE.out).alloc (by omega) _
      have HBA := hide hba
      have HCVA := hide (HCV.out.below ((Below.refl wr.heap.size wr).alloc (Nat.le_refl _) (.cells (chC c) 77)))
      clear hba
      go_wp2_with fail
      refine (change_is K1.out _ HOK.out.1 HCVA.out HOK.out.2).mono ?_
      rintro e w2 ⟨rfl, h2⟩
      cases b1
      · have hV : V = false := by rw [← HVV.out, rightH, HNO.out (by rw [chB, K1.out]; rfl)]; rfl
        subst hV
        have H2 := hide (chain HBA.out h2)
        clear h2
        go_wp2_with fail
        go_ret
        exact ⟨rfl, H2.out⟩
      have q2 := kept h2 (kept ((Below.refl wr.heap.size wr).alloc (Nat.le_refl _) (.cells (chC c) 77)) y2)
      have q3 := kept h2 (kept ((Below.refl wr.heap.size wr).alloc (Nat.le_refl _) (.cells (chC c) 77)) y3)
      have q1 := kept h2 (show (wr.alloc (.cells (chC c) 77)).cell? ⟨wr.heap.size, 1, none⟩ = some (.int .i64 c.d) from (Blk.new wr _ (chC c)).cell 1)
      have H2 := hide (chain HBE.out (chain1 h2))
      clear h2
      go_wp2_with fail
      refine (in_is K2.out _).mono ?_
      rintro e w3 ⟨rfl, h3⟩
      have H3 := hide (chain H2.out h3)
      clear h3
      cases b2
      · have hV : V = false := by rw [← HVV.out, rightH, HNO.out (by rw [chB, K1.out, K2.out]; rfl)]; rfl
        subst hV
        go_wp2_with fail
        go_ret
        exact ⟨rfl, chain H1.out H3.out⟩
      · go_wp2_with fail
        go_roundw
        case rel => exact ⟨k + 1, by omega, by go_num, by rw [HT.out, HC.out, chB, K1.out, K2.out]; rfl, H3.out⟩
        case measure => simp [RowKit.intOf]; omega
    · obtain rfl : k = n := by omega
      obtain ⟨b1, hb1⟩ : ∃ B, termsB h.tm = B := ⟨_, rfl⟩
      have K1 := hide hb1
      have HVV2 := hide (show V = (b1 && decide (k ≤ 2000)) by
        have := HC.out
        rw [List.take_of_length_le (by rw [HN.out]; exact Nat.le_refl _)] at this
        rw [← HVV.out, rightH, this, K1.out, HN.out]; rfl)
      have HTM := hide (HV.out.tm.below (chain H1.out hb))
      have HOT := hide HV.out.ot
      clear hb hb1
      go_wp2_with fail
      refine (terms_is K1.out _ HTM.out HOT.out).mono ?_
      rintro e w2 ⟨rfl, h2⟩
      have H2 := hide (chain H1.out (chain HBE.out h2))
      have y9 := kept h2 y9
      clear h2
      cases b1
      · have hV : V = false := by rw [HVV2.out]; rfl
        subst hV
        go_wp2_with fail
        go_ret
        exact ⟨rfl, H2.out⟩
      · go_wp2_with fail
        go_ret
        exact ⟨ret_bool (by rw [HVV2.out, Bool.eq_iff_iff]; simp; omega), H2.out⟩
theorem right_is {h : Hi} {B : Bool} (hb : rightH h = B) (w : World) (hv : HV w h) :
    Calls Tryz.prog 37 #[.agg #[.int .i64 h.id, .int .i64 h.bk, .int .i64 h.tm.f, .int .i64 h.tm.t, .int .i64 h.tm.k, .int .i64 h.tm.v, .int .i64 h.tm.a, .int .i64 h.tm.z, .slice h.tm.A h.tm.l.length h.tm.cap, .slice h.A h.cs.length h.cap]] w fun e w' => e = .returned (.bool B) ∧ Below w.heap.size w w' := by
  subst hb; exact right_h h w hv
end Go.Proofs.YtmfohnchnbgbaaaGreatDoor

/- The years of days: the program, and the document. -/
namespace Go.Proofs.YtmfohnchnbgbaaaGreatDoor
open Go.RowKit

def leapB (y : Int) : Bool := decide (y % 4 = 0 ∧ (y % 100 ≠ 0 ∨ y % 400 = 0))
def leapI (y : Int) : Int := if leapB y = true then 1 else 0
/-- How many days month m of year y has. -/
def lenM (y m : Int) : Int := if m = 2 then 28 + leapI y else if m = 4 ∨ m = 6 ∨ m = 9 ∨ m = 11 then 30 else 31
/-- How many days are ahead of year y. -/
def aheadI (y : Int) : Int := (y - 1601) * 365 + (y - 1601) / 4 - (y - 1601) / 100 + (y - 1601) / 400
/-- How many days of year y are ahead of month m. -/
def cumM (y m : Int) : Int :=
  if m ≤ 1 then 0 else if m = 2 then 31 else (if m = 3 then 59 else if m = 4 then 90 else if m = 5 then 120 else if m = 6 then 151 else if m = 7 then 181 else if m = 8 then 212 else if m = 9 then 243 else if m = 10 then 273 else if m = 11 then 304 else if m = 12 then 334 else 365) + leapI y
theorem leap_01 (y : Int) : 0 ≤ leapI y ∧ leapI y ≤ 1 := by unfold leapI; split <;> omega
theorem lenM_bd (y m : Int) : 28 ≤ lenM y m ∧ lenM y m ≤ 31 := by
  have := leap_01 y
  unfold lenM; split
  · omega
  · split <;> omega
theorem cumM_succ (y m : Int) (h1 : 1 ≤ m) (h2 : m ≤ 12) : cumM y (m + 1) = cumM y m + lenM y m := by
  have hm : m = 1 ∨ m = 2 ∨ m = 3 ∨ m = 4 ∨ m = 5 ∨ m = 6 ∨ m = 7 ∨ m = 8 ∨ m = 9 ∨ m = 10 ∨ m = 11 ∨ m = 12 := by omega
  rcases hm with rfl | rfl | rfl | rfl | rfl | rfl | rfl | rfl | rfl | rfl | rfl | rfl <;> simp [cumM, lenM] <;> omega
theorem leap_of_ahead (y : Int) : aheadI (y + 1) = aheadI y + 365 + leapI y := by
  unfold aheadI leapI leapB
  simp only [decide_eq_true_eq]
  split <;> omega
theorem tmod_zero (y : Int) (k : Int) : (y.tmod k = 0) ↔ (y % k = 0) := by
  rw [← Int.dvd_iff_tmod_eq_zero, Int.dvd_iff_emod_eq_zero]
set_option maxHeartbeats 1000000 in
theorem ahead_any (y : Int) (h1 : 1601 ≤ y) (h2 : y ≤ 2402) (w : World) : Calls Tryz.prog 23 #[.int .i64 y] w fun e w' => e = .returned (.int .i64 (aheadI y)) ∧ w = w' := by
  go_enter Tryz.func23, Tryz.ntmps23
  go_wp2
  go_ret
  exact ⟨ret_int (by simp only [aheadI]), rfl⟩
theorem is_any (n : Int) (w : World) : Calls Tryz.prog 50 #[.int .i64 n] w fun e w' => e = .returned (.bool (decide (1 ≤ n ∧ n ≤ 292194))) ∧ w = w' := by
  go_enter Tryz.func50, Tryz.ntmps50
  go_wp2
  all_goals
    go_ret
    exact ⟨ret_bool (by rw [Bool.eq_iff_iff]; simp; omega), rfl⟩
def rightB (y m d : Int) : Bool := decide (1601 ≤ y ∧ y ≤ 2400 ∧ 1 ≤ m ∧ m ≤ 12 ∧ 1 ≤ d ∧ d ≤ lenM y m)
def numI (y m d : Int) : Int := aheadI y + cumM y m + d
theorem ahead_bd (y : Int) (h1 : 1601 ≤ y) (h2 : y ≤ 2401) : 0 ≤ aheadI y ∧ aheadI y ≤ 292194 := by unfold aheadI; omega
theorem cum_bd (y m : Int) (h2 : m ≤ 13) : 0 ≤ cumM y m ∧ cumM y m ≤ 366 := by
  have hl := leap_01 y
  have hm : m ≤ 1 ∨ m = 2 ∨ m = 3 ∨ m = 4 ∨ m = 5 ∨ m = 6 ∨ m = 7 ∨ m = 8 ∨ m = 9 ∨ m = 10 ∨ m = 11 ∨ m = 12 ∨ m = 13 := by omega
  rcases hm with h | rfl | rfl | rfl | rfl | rfl | rfl | rfl | rfl | rfl | rfl | rfl | rfl
  · simp [cumM, h]
  all_goals
    simp [cumM]
    try omega
set_option maxHeartbeats 1000000 in
theorem year_any (n : Int) (w : World) :
    Calls Tryz.prog 25 #[.int .i64 n] w fun e w' => ((1 ≤ n ∧ n ≤ 292194 → ∃ y, e = .returned (.tuple #[.int .i64 y, .int .i64 0]) ∧ 1601 ≤ y ∧ y ≤ 2400 ∧ aheadI y < n ∧ n ≤ aheadI (y + 1)) ∧ (¬(1 ≤ n ∧ n ≤ 292194) → e = .returned (.tuple #[.int .i64 0, .int .i64 3]))) ∧ w = w' := by
  by_cases h : 1 ≤ n ∧ n ≤ 292194
  · have hh := hide h
    obtain ⟨h1, h2⟩ := h
    have hdec : decide (1 ≤ n ∧ n ≤ 292194) = true := by simp; omega
    have HD := hide hdec
    clear hdec
    go_enter Tryz.func25, Tryz.ntmps25
    go_wp2_with (go_at_call 50; refine (is_any _ _).mono ?_; rw [HD.out]; rintro e w' ⟨rfl, rfl⟩)
    go_loop [4] (fun t => ∃ y : Int, 1601 ≤ y ∧ y ≤ 2401 ∧ n ≤ aheadI (y + 1) ∧ t = .int .i64 y) (fun t => (intOf t).toNat)
    case atStart => exact ⟨_, by omega, by omega, by unfold aheadI; omega, rfl⟩
    case round =>
      obtain ⟨y, hy1, hy2, hy3, rfl⟩ := hrel
      by_cases hc : n ≤ aheadI y
      · have hy : 1602 ≤ y := by
          rcases Int.lt_or_le 1601 y with hlt | hle
          · omega
          · obtain rfl : y = 1601 := by omega
            simp [aheadI] at hc
            omega
        go_wp2_with (go_at_call 23; refine (ahead_any _ (by omega) (by omega) _).mono ?_; rintro e w' ⟨rfl, rfl⟩)
        go_round
        case rel => exact ⟨y - 1, by omega, by omega, by rw [show y - 1 + 1 = y by omega]; exact hc, rfl⟩
        case measure => simp [intOf]; omega
      · have hc' : aheadI y < n := by omega
        have hy : y ≤ 2400 := by
          rcases Int.lt_or_le y 2401 with hlt | hle
          · omega
          · obtain rfl : y = 2401 := by omega
            simp [aheadI] at hc'
            omega
        go_wp2_with (go_at_call 23; refine (ahead_any _ (by omega) (by omega) _).mono ?_; rintro e w' ⟨rfl, rfl⟩)
        go_ret2
        exact ⟨⟨fun _ => ⟨y, rfl, hy1, hy, hc', hy3⟩, fun h => absurd hh.out h⟩, rfl⟩
  · have hh := hide h
    have hdec : decide (1 ≤ n ∧ n ≤ 292194) = false := by simp; omega
    have HD := hide hdec
    clear hdec h
    go_enter Tryz.func25, Tryz.ntmps25
    go_wp2_with (go_at_call 50; refine (is_any _ _).mono ?_; rw [HD.out]; rintro e w' ⟨rfl, rfl⟩)
    go_ret2
    exact ⟨⟨fun h => absurd h hh.out, fun _ => rfl⟩, rfl⟩
def OfPost (n : Int) (w : World) (e : Ending) (w' : World) : Prop :=
  ∃ y m d : Int, e = .returned (.tuple #[.agg #[.int .i64 y, .int .i64 m, .int .i64 d], .int .i64 0]) ∧ rightB y m d = true ∧ numI y m d = n ∧ Below w.heap.size w w'
theorem ahead_q (q : Int) : aheadI (1601 + q) = q * 365 + q / 4 - q / 100 + q / 400 := by
  unfold aheadI
  rw [show 1601 + q - 1601 = q by omega]
theorem ahead_q1 (q : Int) : aheadI (1601 + q - 1) = (q - 1) * 365 + (q - 1) / 4 - (q - 1) / 100 + (q - 1) / 400 := by
  rw [show 1601 + q - 1 = 1601 + (q - 1) by omega, ahead_q]
/-- The year of a day, as a number. -/
def yearI (n : Int) : Int := if n ≤ aheadI (1601 + (n - 1) / 365) then 1601 + (n - 1) / 365 - 1 else 1601 + (n - 1) / 365
theorem yearI_ok (n : Int) (h1 : 1 ≤ n) (h2 : n ≤ 292194) : 1601 ≤ yearI n ∧ yearI n ≤ 2400 ∧ aheadI (yearI n) < n ∧ n ≤ aheadI (yearI n + 1) := by
  obtain ⟨q, hq⟩ : ∃ q, (n - 1) / 365 = q := ⟨_, rfl⟩
  unfold yearI
  rw [hq]
  have hq1 : 365 * q ≤ n - 1 ∧ n - 1 < 365 * q + 365 := by omega
  clear hq
  split
  · rename_i h
    rw [ahead_q] at h
    rw [show 1601 + q - 1 + 1 = 1601 + q by omega, ahead_q, ahead_q1]
    omega
  · rename_i h
    rw [ahead_q] at h
    rw [show 1601 + q + 1 = 1601 + (q + 1) by omega, ahead_q, ahead_q]
    omega
theorem ahead_lt {y z : Int} (h1 : 1601 ≤ y) (h : y < z) : aheadI y < aheadI z := by
  obtain ⟨p, rfl⟩ : ∃ p, y = 1601 + p := ⟨y - 1601, by omega⟩
  obtain ⟨q, rfl⟩ : ∃ q, z = 1601 + q := ⟨z - 1601, by omega⟩
  rw [ahead_q, ahead_q]
  omega
theorem year_uniq {y z n : Int} (hy : 1601 ≤ y) (hz : 1601 ≤ z) (h1 : aheadI y < n) (h2 : n ≤ aheadI (y + 1)) (h3 : aheadI z < n) (h4 : n ≤ aheadI (z + 1)) : y = z := by
  rcases Int.lt_trichotomy y z with h | h | h
  · rcases Int.lt_or_le (y + 1) z with h' | h'
    · have := ahead_lt (by omega) h'
      omega
    · have e : z = y + 1 := by omega
      rw [← e] at h2
      omega
  · exact h
  · rcases Int.lt_or_le (z + 1) y with h' | h'
    · have := ahead_lt (by omega) h'
      omega
    · have e : y = z + 1 := by omega
      rw [← e] at h4
      omega
theorem year_val (n : Int) (w : World) (h1 : 1 ≤ n) (h2 : n ≤ 292194) : Calls Tryz.prog 25 #[.int .i64 n] w fun e w' => e = .returned (.tuple #[.int .i64 (yearI n), .int .i64 0]) ∧ w = w' :=
  (year_any n w).mono fun _ _ ⟨⟨hy, _⟩, hw⟩ => by
    obtain ⟨y, he, a, b, c, d⟩ := hy ⟨h1, h2⟩
    obtain ⟨a', b', c', d'⟩ := yearI_ok n h1 h2
    rw [year_uniq a a' c d c' d'] at he
    exact ⟨he, hw⟩
theorem year_bad (n : Int) (w : World) (h : ¬(1 ≤ n ∧ n ≤ 292194)) : Calls Tryz.prog 25 #[.int .i64 n] w fun e w' => e = .returned (.tuple #[.int .i64 0, .int .i64 3]) ∧ w = w' :=
  (year_any n w).mono fun _ _ ⟨⟨_, hn⟩, hw⟩ => ⟨hn h, hw⟩
/-- A day's year, or 0. -/
def yrV (n : Int) : Int := if 1 ≤ n ∧ n ≤ 292194 then yearI n else 0
def yrE (n : Int) : Int := if 1 ≤ n ∧ n ≤ 292194 then 0 else 3
theorem year_v (n : Int) (w : World) : Calls Tryz.prog 25 #[.int .i64 n] w fun e w' => e = .returned (.tuple #[.int .i64 (yrV n), .int .i64 (yrE n)]) ∧ w = w' := by
  by_cases h : 1 ≤ n ∧ n ≤ 292194
  · rw [yrV, yrE, if_pos h, if_pos h]; exact year_val n w h.1 h.2
  · rw [yrV, yrE, if_neg h, if_neg h]; exact year_bad n w h
end Go.Proofs.YtmfohnchnbgbaaaGreatDoor

/- Rows: what is amiss with one; how they come in. -/
namespace Go.Proofs.YtmfohnchnbgbaaaGreatDoor
open Go.ChangeShapes Go.WideShapes Go.ChangeAt Go.RowKit

/-- A row: the day of the loss, the day it was booked, how much. -/
structure R3 where
  a : Int
  b : Int
  m : Int
def enc3 (x : R3) : List Value := [.int .i64 x.a, .int .i64 x.b, .int .i64 x.m]
section
variable {H : Type} {enc : TypeId × Value → H} {W : World} {r : Reach} {b0 : Nat} {v : Value} {d : DataW H} {p : List MemPlace}
end
theorem Sl.r3 {w : World} {B k : Nat} {A : Option Addr} {l : List R3} {x : R3} (h : Sl w B 3 A (l.map enc3)) (hx : l[k]? = some x) :
    ∃ b off, A = some ⟨b, off, none⟩ ∧ b < B ∧ w.cell? ⟨b, off + k * 3, none⟩ = some (.int .i64 x.a) ∧ w.cell? ⟨b, off + k * 3 + 1, none⟩ = some (.int .i64 x.b) ∧ w.cell? ⟨b, off + k * 3 + 2, none⟩ = some (.int .i64 x.m) := by
  obtain ⟨b, off, hA, hb, hc⟩ := h k (enc3 x) (by simp [hx])
  exact ⟨b, off, hA, hb, hc 0 _ rfl, hc 1 _ rfl, hc 2 _ rfl⟩

def moneyB (m : Int) : Bool := decide (0 ≤ m ∧ m ≤ 1000000000000000)
/-- What is amiss with a row. -/
def chk (x : R3) : Int := if ¬(1 ≤ x.a ∧ x.a ≤ 292194 ∧ 1 ≤ x.b ∧ x.b ≤ 292194 ∧ 0 ≤ x.m ∧ x.m ≤ 1000000000000000) then 1 else if x.b < x.a then 4 else 0
theorem money_any (m : Int) (w : World) : Calls Tryz.prog 49 #[.int .i64 m] w fun e w' => e = .returned (.bool (moneyB m)) ∧ w = w' := by
  go_enter Tryz.func49, Tryz.ntmps49
  go_wp2
  all_goals
    go_ret
    exact ⟨ret_bool (by rw [Bool.eq_iff_iff]; simp [moneyB]; omega), rfl⟩

set_option maxHeartbeats 2000000 in
theorem check_any (a b m : Int) (w : World) : Calls Tryz.prog 24 #[.agg #[.int .i64 a, .int .i64 b, .int .i64 m]] w fun e w' => e = .returned (.int .i64 (chk ⟨a, b, m⟩)) ∧ Below w.heap.size w w' := by
  rcases (show a < 1 ∨ (1 ≤ a ∧ 292194 < a) ∨ (1 ≤ a ∧ a ≤ 292194 ∧ b < 1) ∨ (1 ≤ a ∧ a ≤ 292194 ∧ 1 ≤ b ∧ 292194 < b) ∨ (1 ≤ a ∧ a ≤ 292194 ∧ 1 ≤ b ∧ b ≤ 292194) by omega) with h | ⟨h, h1⟩ | ⟨h, h1, h2⟩ | ⟨h, h1, h2, h3⟩ | ⟨h, h1, h2, h3⟩
  iterate 4
    · have e : chk ⟨a, b, m⟩ = 1 := by rw [chk, if_pos (by simp only; omega)]
      have E := hide e
      clear e
      go_enter Tryz.func24, Tryz.ntmps24
      go_wp2_with fail
      go_ret
      exact ⟨by rw [E.out]; rfl, (Below.refl _ _).alloc (Nat.le_refl _) _⟩
  cases hm : moneyB m
  · have e : chk ⟨a, b, m⟩ = 1 := by
      simp only [moneyB, decide_eq_false_iff_not] at hm
      rw [chk, if_pos (by simp only; omega)]
    have E := hide e
    clear e
    go_enter Tryz.func24, Tryz.ntmps24
    go_wp2_with (go_at_call 49; refine (money_any _ _).mono ?_; rintro e w' ⟨rfl, rfl⟩)
    go_ret
    exact ⟨by rw [E.out]; rfl, (Below.refl _ _).alloc (Nat.le_refl _) _⟩
  · by_cases hba : b < a
    · have e : chk ⟨a, b, m⟩ = 4 := by
        simp only [moneyB, decide_eq_true_eq] at hm
        rw [chk, if_neg (by simp only; omega), if_pos hba]
      have E := hide e
      clear e
      go_enter Tryz.func24, Tryz.ntmps24
      go_wp2_with (go_at_call 49; refine (money_any _ _).mono ?_; rintro e w' ⟨rfl, rfl⟩)
      go_ret
      exact ⟨by rw [E.out]; rfl, (Below.refl _ _).alloc (Nat.le_refl _) _⟩
    · have e : chk ⟨a, b, m⟩ = 0 := by
        simp only [moneyB, decide_eq_true_eq] at hm
        rw [chk, if_neg (by simp only; omega), if_neg hba]
      have E := hide e
      clear e
      go_enter Tryz.func24, Tryz.ntmps24
      go_wp2_with (go_at_call 49; refine (money_any _ _).mono ?_; rintro e w' ⟨rfl, rfl⟩)
      go_ret
      exact ⟨by rw [E.out]; rfl, (Below.refl _ _).alloc (Nat.le_refl _) _⟩

end Go.Proofs.YtmfohnchnbgbaaaGreatDoor

/- A row with more in it, from one cell on: the document's. -/
namespace Go.Proofs.YtmfohnchnbgbaaaGreatDoor
open Go.RowKit

def moreF (dev amt : Int) (k : Nat) (v : Int) : Int := if dev ≤ (k : Int) then v + amt else v
def moreL (dev amt : Int) (l : List Int) : List Int := l.mapIdx (moreF dev amt)
def capB (l : List Int) : Bool := l.all fun v => decide (v ≤ 100000000000000000)
theorem moreL_len (dev amt : Int) (l : List Int) : (moreL dev amt l).length = l.length := by simp [moreL]
theorem moreL_get {dev amt : Int} {l : List Int} {k : Nat} {v : Int} (h : l[k]? = some v) : (moreL dev amt l)[k]? = some (moreF dev amt k v) := by simp [moreL, h]
end Go.Proofs.YtmfohnchnbgbaaaGreatDoor

/- An amount put into a triangle: what becomes of it; the document's state. -/
namespace Go.Proofs.YtmfohnchnbgbaaaGreatDoor
open Go.RowKit

theorem SV.grown {w w' : World} {sz n cap : Nat} {A : Option Addr} {rows : List (List Value)} (h : SV w sz A n cap rows) {row : Option Nat} (hg : w.grownBy w' row) (hne : ∀ kk, blk A = some kk → some kk ≠ row) : SV w' sz A n cap rows := by
  refine ⟨fun i r hr => ?_, h.len, h.le, h.most, h.nil⟩
  obtain ⟨b, off, hA, hb, hc⟩ := h.sl i r hr
  refine ⟨b, off, hA, Nat.lt_of_lt_of_le hb hg.size, fun j u hu => ?_⟩
  rw [World.cell?_of_block (w := w)]
  · exact hc j u hu
  · exact hg.block b hb (hne b (by rw [hA]; rfl))
theorem SV.far {w : World} {sz n cap : Nat} {A : Option Addr} {rows : List (List Value)} (h : SV w sz A n cap rows) {p : Addr} (hp : ∀ kk, blk A = some kk → kk ≠ p.block) (u : Value) : SV (w.setCell p u) sz A n cap rows :=
  h.grown (grown_set w p u) (fun kk hk he => hp kk hk (by simpa using he))
theorem SV.lt {w : World} {sz n cap kk : Nat} {A : Option Addr} {rows : List (List Value)} (h : SV w sz A n cap rows) (hn : 0 < n) (hk : blk A = some kk) : kk < w.heap.size := by
  obtain ⟨r, hr⟩ := get_of (l := rows) (k := 0) (by rw [h.len]; exact hn)
  obtain ⟨b, off, hA, hb, _⟩ := h.sl 0 r hr
  subst hA
  simp [blk] at hk
  omega
theorem elRow : ElT Tryz.prog 31 36 1 24 := ElT.mk' (z := .slice none 0 0) Tryz.underlying31 (by kernel_rfl) rfl (by omega)
theorem okRw (M : List Rw) : RowsOk 1 (M.map encRw) := by
  intro r hr
  obtain ⟨x, _, rfl⟩ := List.mem_map.1 hr
  refine ⟨rfl, fun u hu => ?_⟩
  simp [encRw] at hu
  subst hu; rfl

def triC (f : Int) (A : Option Addr) (n cap : Nat) : Array Value := #[.int .i64 f, .slice A n cap]
/-- The state of a triangle that is being made: its box G, its outer slice (owned, from B on), its rows, apart from both. -/
structure Mat (w : World) (B G : Nat) (f : Int) (R : List Rw) (A : Option Addr) (cap : Nat) (wx : World) : Prop where
  o : Blk wx G 33 (triC f A R.length cap)
  own : OwnS wx B 36 1 A R.length cap (R.map encRw)
  rows : ∀ r ∈ R, SV wx 1 r.A r.l.length r.cap (r.l.map encI)
  apart : ∀ r ∈ R, ∀ kk, blk r.A = some kk → kk < wx.heap.size ∧ kk ≠ G ∧ blk A ≠ some kk
  GB : G < B
  base : w.heap.size ≤ G
  bel : Below w.heap.size w wx
section
variable {w wx wy : World} {B G : Nat} {f : Int} {R : List Rw} {A : Option Addr} {cap : Nat}
theorem Mat.below (h : Mat w B G f R A cap wx) (hb : Below wx.heap.size wx wy) : Mat w B G f R A cap wy :=
  ⟨h.o.below hb h.o.lt, h.own.below hb, fun r hr => (h.rows r hr).below hb, fun r hr kk hk => by have := h.apart r hr kk hk; exact ⟨Nat.lt_of_lt_of_le this.1 hb.size, this.2⟩, h.GB, h.base, chain h.bel hb⟩
theorem Mat.mv (h : Mat w B G f R A cap wx) : MV wx A R.length cap R := ⟨h.own.sv, h.rows⟩
end
end Go.Proofs.YtmfohnchnbgbaaaGreatDoor

/- An amount put into a triangle: the document's walk. -/
namespace Go.Proofs.YtmfohnchnbgbaaaGreatDoor
open Go.RowKit

def zeroT : Array Value := #[.int .i64 0, .slice none 0 0]
end Go.Proofs.YtmfohnchnbgbaaaGreatDoor
