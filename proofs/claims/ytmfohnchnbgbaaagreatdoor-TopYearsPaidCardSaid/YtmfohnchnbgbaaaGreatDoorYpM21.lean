/- Part 21 of the proof. -/
import Derived.Test.YtmfohnchnbgbaaaGreatDoorYpM20
/- Steps: whether one may be; its value on a day. -/
namespace Go.Proofs.YtmfohnchnbgbaaaGreatDoor
open Go.RowKit

def moneyS (v : Int) : Bool := decide (-4000000000000000000 ≤ v ∧ v ≤ 4000000000000000000)
theorem moneyS_any (v : Int) (w : World) : Calls Tryz.prog 156 #[.int .i64 v] w fun e w' => e = .returned (.bool (moneyS v)) ∧ w = w' := by
  go_enter Tryz.func156, Tryz.ntmps156
  go_wp2
  all_goals
    go_ret
    exact ⟨ret_bool (by rw [Bool.eq_iff_iff]; simp [moneyS]; try omega), rfl⟩
theorem moneyS_is {v : Int} {B : Bool} (h : moneyS v = B) (w : World) : Calls Tryz.prog 156 #[.int .i64 v] w fun e w' => e = .returned (.bool B) ∧ w = w' := by
  subst h; exact moneyS_any v w
theorem fullS_any (f t : Int) (w : World) :
    Calls Tryz.prog 131 #[.agg #[.int .i64 f, .int .i64 t]] w fun e w' => e = .returned (.bool (daysB f t)) ∧ Below w.heap.size w w' := by
  go_enter Tryz.func131, Tryz.ntmps131
  go_wp2
  all_goals
    go_ret
    exact ⟨ret_bool (by rw [Bool.eq_iff_iff]; simp [daysB]; omega), (Below.refl _ _).alloc (Nat.le_refl _) _⟩
theorem fullS_is {f t : Int} {B : Bool} (h : daysB f t = B) (w : World) :
    Calls Tryz.prog 131 #[.agg #[.int .i64 f, .int .i64 t]] w fun e w' => e = .returned (.bool B) ∧ Below w.heap.size w w' := by
  subst h; exact fullS_any f t w

/-- A step's places and values. -/
def okP (day val d x : Int) : Bool := decide (day < d ∧ d ≤ 292194 ∧ x ≠ val) && moneyS x
def rsG (day val : Int) : List Int → List Int → Bool
  | [], [] => true
  | d :: ds, x :: xs => okP day val d x && rsG d x ds xs
  | _, _ => false
def stepRB (a v : List Int) : Bool := rsG 0 0 a v
theorem rsG_len : ∀ {a v : List Int} {day val : Int}, rsG day val a v = true → a.length = v.length
  | [], [], _, _, _ => rfl
  | d :: ds, x :: xs, _, _, h => by
    rw [rsG, Bool.and_eq_true] at h
    rw [List.length_cons, List.length_cons, rsG_len h.2]
  | [], _ :: _, _, _, h => by cases h
  | _ :: _, [], _, _, h => by cases h
theorem stepRB_len {a v : List Int} (h : a.length ≠ v.length) : stepRB a v = false := by
  rw [Bool.eq_false_iff]; intro h2; exact h (rsG_len h2)

set_option maxRecDepth 100000 in
set_option maxHeartbeats 4000000 in
theorem stepR_any (A A2 : Option Addr) (n n2 cap cap2 : Nat) (a v : List Int) (w : World) (hs : SV w 1 A n cap (a.map encI)) (hs2 : SV w 1 A2 n2 cap2 (v.map encI)) :
    Calls Tryz.prog 130 #[.agg #[.slice A n cap, .slice A2 n2 cap2]] w fun e w' => e = .returned (.bool (stepRB a v)) ∧ Below w.heap.size w w' := by
  have hn : a.length = n := by have := hs.len; simpa using this
  have hn2 : v.length = n2 := by have := hs2.len; simpa using this
  have hle := hs.le
  have hmo := hs.most
  unfold maxLen at hmo
  by_cases hne : n = n2
  case neg =>
    have HF := hide (stepRB_len (show a.length ≠ v.length by omega))
    have hb : ((n : Int) != (n2 : Int)) = true := by simp; omega
    clear hn hn2 hs hs2
    go_enter Tryz.func130, Tryz.ntmps130
    go_wp2_with fail
    go_ret
    exact ⟨ret_bool HF.out.symm, (Below.refl _ _).alloc (Nat.le_refl _) _⟩
  subst hne
  have HN := hide hn
  have HN2 := hide hn2
  have HS := hide hs
  have HS2 := hide hs2
  obtain ⟨V, hV⟩ : ∃ V, stepRB a v = V := ⟨_, rfl⟩
  rw [hV]
  have HV := hide hV
  obtain ⟨w1, hw1⟩ : ∃ W, w.alloc (.cells #[.slice A n cap, .slice A2 n cap2] 127) = W := ⟨_, rfl⟩
  have hB : Blk w1 w.heap.size 127 #[.slice A n cap, .slice A2 n cap2] := by rw [← hw1]; exact Blk.new _ _ _
  have hb1 : Below w.heap.size w w1 := by rw [← hw1]; exact (Below.refl _ _).alloc (Nat.le_refl _) _
  have z0 := hB.cell 0
  have z1 := hB.cell 1
  simp at z0 z1
  have HW := hide hw1
  have H1 := hide hb1
  have HB := hide hB
  clear hn hn2 hs hs2 hV hw1 hB hb1
  go_enter Tryz.func130, Tryz.ntmps130
  go_upto_region 1 with fail
  rw [show w.alloc (.cells #[.slice A n cap, .slice A2 n cap2] 127) = w1 from HW.out]
  have hbn : ((n : Int) != (n : Int)) = false := by simp
  go_wp2_with fail
  go_loop [3, 4, 18] (fun p q i => ∃ (k : Nat) (day val : Int), k ≤ n ∧ i = .int .i64 k ∧ p = .int .i64 day ∧ q = .int .i64 val ∧ rsG day val (a.drop k) (v.drop k) = V) (fun _ _ i => n - (RowKit.intOf i).toNat)
  case atStart => exact ⟨0, 0, 0, Nat.zero_le _, rfl, rfl, rfl, HV.out⟩
  case round =>
    obtain ⟨k, day, val, hk, rfl, rfl, rfl, hr⟩ := hrel
    have HR := hide hr
    clear hr
    by_cases hlt : k < n
    · obtain ⟨d, hd⟩ := get_of (l := a) (k := k) (by rw [HN.out]; exact hlt)
      obtain ⟨x, hx⟩ := get_of (l := v) (k := k) (by rw [HN2.out]; exact hlt)
      obtain ⟨b, off, rfl, hbl, c0⟩ := (HS.out.below H1.out).sl.i hd
      obtain ⟨b', off', rfl, hbl', d0⟩ := (HS2.out.below H1.out).sl.i hx
      have HRD := hide (show rsG day val (a.drop k) (v.drop k) = (okP day val d x && rsG d x (a.drop (k + 1)) (v.drop (k + 1))) by rw [drop_of hd, drop_of hx, rsG])
      have hk0 : (0 : Int) ≤ (k : Int) := by omega
      have hk1 : (k : Int) < (n : Int) := by omega
      clear hd hx
      obtain ⟨B, hBm⟩ : ∃ B, moneyS x = B := ⟨_, rfl⟩
      have HBM := hide hBm
      clear hBm
      by_cases hbad : d ≤ day ∨ 292194 < d ∨ x = val
      · have HF := hide (show V = false by
          have := HR.out
          rw [HRD.out, okP, show decide (day < d ∧ d ≤ 292194 ∧ x ≠ val) = false by simp; omega] at this
          simpa using this.symm)
        rcases (show d ≤ day ∨ (¬ d ≤ day ∧ 292194 < d) ∨ (¬ d ≤ day ∧ ¬ 292194 < d ∧ x = val) by omega) with g | ⟨g1, g2⟩ | ⟨g1, g2, g3⟩
        · clear hbad
          go_wp2_with fail
          go_ret
          exact ⟨ret_bool HF.out.symm, H1.out⟩
        · clear hbad
          go_wp2_with fail
          go_ret
          exact ⟨ret_bool HF.out.symm, H1.out⟩
        · have g4 : (x == val) = true := by simpa using g3
          clear hbad g3
          go_wp2_with fail
          go_ret
          exact ⟨ret_bool HF.out.symm, H1.out⟩
      · have g1 : ¬ d ≤ day := by omega
        have g2 : ¬ 292194 < d := by omega
        have g4 : (x == val) = false := by simp; omega
        have HO := hide (show okP day val d x = B by rw [okP, HBM.out, show decide (day < d ∧ d ≤ 292194 ∧ x ≠ val) = true by simp; omega]; simp)
        clear hbad
        cases B
        · have HF := hide (show V = false by
            have := HR.out
            rw [HRD.out, HO.out] at this
            simpa using this.symm)
          go_wp2_with fail
          refine (moneyS_is HBM.out _).mono ?_
          rintro e w' ⟨rfl, rfl⟩
          go_wp2_with fail
          go_ret
          exact ⟨ret_bool HF.out.symm, H1.out⟩
        · go_wp2_with fail
          refine (moneyS_is HBM.out _).mono ?_
          rintro e w' ⟨rfl, rfl⟩
          go_wp2_with fail
          go_round
          case rel => exact ⟨k + 1, d, x, by omega, by go_num, rfl, rfl, by have := HR.out; rw [HRD.out, HO.out] at this; simpa using this⟩
          case measure => simp [RowKit.intOf]; omega
    · obtain rfl : k = n := by omega
      have HT := hide (show V = true by
        have := HR.out
        rw [List.drop_eq_nil_of_le (by rw [HN.out]; exact Nat.le_refl _), List.drop_eq_nil_of_le (by rw [HN2.out]; exact Nat.le_refl _)] at this
        exact this.symm)
      go_wp2_with fail
      go_ret
      exact ⟨ret_bool HT.out.symm, H1.out⟩
theorem stepR_is {A A2 : Option Addr} {n n2 cap cap2 : Nat} {a v : List Int} {B : Bool} (h : stepRB a v = B) (w : World) (hs : SV w 1 A n cap (a.map encI)) (hs2 : SV w 1 A2 n2 cap2 (v.map encI)) :
    Calls Tryz.prog 130 #[.agg #[.slice A n cap, .slice A2 n2 cap2]] w fun e w' => e = .returned (.bool B) ∧ Below w.heap.size w w' := by
  subst h; exact stepR_any A A2 n n2 cap cap2 a v w hs hs2

/-- How many are less, of a list that rises. -/
def Ris : List Int → Prop
  | [] => True
  | [_] => True
  | a :: b :: r => a < b ∧ Ris (b :: r)
theorem Ris.tail {a : Int} {l : List Int} (h : Ris (a :: l)) : Ris l := by
  cases l with
  | nil => trivial
  | cons b r => exact h.2
theorem Ris.lt_all : ∀ {l : List Int} {a : Int}, Ris (a :: l) → ∀ x ∈ l, a < x
  | [], _, _, x, hx => by simp at hx
  | b :: r, a, h, x, hx => by
    rcases List.mem_cons.1 hx with rfl | hx
    · exact h.1
    · exact Int.lt_trans h.1 (Ris.lt_all h.2 x hx)
theorem Ris.lt_at : ∀ {l : List Int} {i j : Nat} {x y : Int}, Ris l → l[i]? = some x → l[j]? = some y → i < j → x < y
  | [], i, j, x, y, _, h, _, _ => by simp at h
  | a :: r, 0, 0, x, y, _, _, _, hij => by omega
  | a :: r, 0, j + 1, x, y, h, hx, hy, _ => by
    simp at hx hy; subst hx
    exact h.lt_all y (List.mem_of_getElem? hy)
  | a :: r, i + 1, 0, x, y, _, _, _, hij => by omega
  | a :: r, i + 1, j + 1, x, y, h, hx, hy, hij => Ris.lt_at (l := r) h.tail (by simpa using hx) (by simpa using hy) (by omega)
def bsI (t : Int) : List Int → Nat
  | [] => 0
  | a :: r => if a < t then bsI t r + 1 else 0
theorem bsI_eq : ∀ {l : List Int} {t : Int} {i : Nat}, i ≤ l.length → (∀ k x, k < i → l[k]? = some x → x < t) → (∀ x, l[i]? = some x → t ≤ x) → bsI t l = i
  | [], t, i, hi, _, _ => by simp at hi; subst hi; rfl
  | a :: r, t, 0, _, _, h2 => by
    have := h2 a rfl
    rw [bsI, if_neg (by omega)]
  | a :: r, t, i + 1, hi, h1, h2 => by
    have := h1 0 a (by omega) rfl
    rw [bsI, if_pos this, bsI_eq (l := r) (i := i) (by simpa using hi) (fun k x hk hx => h1 (k + 1) x (by omega) (by simpa using hx)) (fun x hx => h2 x (by simpa using hx))]
theorem isNan_any (n : Int) (w : World) : Calls Tryz.prog 178 #[.int .i64 n] w fun e w' => e = .returned (.bool false) ∧ w = w' := by
  go_enter Tryz.func178, Tryz.ntmps178
  go_wp2
  all_goals
    go_ret
    exact ⟨rfl, rfl⟩
def fndB (t : Int) (l : List Int) : Bool := l[bsI t l]? == some t

set_option maxRecDepth 100000 in
set_option maxHeartbeats 4000000 in
theorem bs_any (A : Option Addr) (n cap : Nat) (l : List Int) (t : Int) (w : World) (hs : SV w 1 A n cap (l.map encI)) (hr : Ris l) (hn62 : n ≤ 1000000) :
    Calls Tryz.prog 173 #[.slice A n cap, .int .i64 t] w fun e w' => e = .returned (.tuple #[.int .i64 (bsI t l : Nat), .bool (fndB t l)]) ∧ w = w' := by
  have hn : l.length = n := by have := hs.len; simpa using this
  have HN := hide hn
  have HS := hide hs
  have HR := hide hr
  clear hn hs hr
  go_enter Tryz.func173, Tryz.ntmps173
  go_wp2_with fail
  go_loop [7, 8] (fun p q => ∃ i j : Nat, p = .int .i64 i ∧ q = .int .i64 j ∧ i ≤ j ∧ j ≤ n ∧ (∀ k x, k < i → l[k]? = some x → x < t) ∧ (∀ x, l[j]? = some x → t ≤ x)) (fun p q => (RowKit.intOf q - RowKit.intOf p).toNat)
  case atStart => exact ⟨0, n, rfl, rfl, Nat.zero_le _, Nat.le_refl _, fun k x hk => by omega, fun x hx => by have := lt_of_get hx; rw [HN.out] at this; omega⟩
  case round =>
    obtain ⟨i, j, rfl, rfl, hij, hjn, h1, h2⟩ := hrel
    have HL1 := hide h1
    have HL2 := hide h2
    clear h1 h2
    by_cases hlt : i < j
    · obtain ⟨m, hm⟩ : ∃ m, (i + j) / 2 = m := ⟨_, rfl⟩
      have hm1 : i ≤ m := by omega
      have hm2 : m < j := by omega
      obtain ⟨x, hx⟩ := get_of (l := l) (k := m) (by rw [HN.out]; omega)
      obtain ⟨b, off, rfl, hbl, c0⟩ := HS.out.sl.i hx
      have HX := hide hx
      have HM := hide hm
      clear hx
      by_cases hxt : x < t
      · have hd : decide (x < t) = true := by simpa using hxt
        go_wp2_with fail
        refine (less_any x t _).mono ?_
        rintro e w' ⟨rfl, rfl⟩
        rw [hd]
        go_wp2_with fail
        go_round
        case rel => exact ⟨m + 1, j, by simp; omega, rfl, by omega, hjn, fun k y hk hy => by
          rcases Nat.lt_or_ge k m with h | h
          · have := HR.out.lt_at hy HX.out h
            omega
          · obtain rfl : k = m := by omega
            rw [HX.out] at hy; cases hy; exact hxt, HL2.out⟩
        case measure => simp [RowKit.intOf]; omega
      · have hd : decide (x < t) = false := by simpa using hxt
        go_wp2_with fail
        refine (less_any x t _).mono ?_
        rintro e w' ⟨rfl, rfl⟩
        rw [hd]
        go_wp2_with fail
        go_round
        case rel => exact ⟨i, m, rfl, by simp; omega, hm1, by omega, HL1.out, fun y hy => by rw [HX.out] at hy; cases hy; omega⟩
        case measure => simp [RowKit.intOf]; omega
    · obtain rfl : i = j := by omega
      have HB := hide (bsI_eq (l := l) (t := t) (i := i) (by rw [HN.out]; exact hjn) HL1.out HL2.out)
      by_cases hin : i < n
      · obtain ⟨x, hx⟩ := get_of (l := l) (k := i) (by rw [HN.out]; exact hin)
        obtain ⟨b, off, rfl, hbl, c0⟩ := HS.out.sl.i hx
        have hk0 : (0 : Int) ≤ (i : Int) := by omega
        have hk1 : (i : Int) < (n : Int) := by omega
        have HF := hide (show fndB t l = (x == t) by rw [fndB, HB.out, hx]; rfl)
        clear hx
        by_cases hxt : x = t
        · have hq : (x == t) = true := by simpa using hxt
          rw [hq] at HF
          clear hxt
          go_wp2_with fail
          go_ret2
          rw [HB.out, HF.out]
          exact ⟨rfl, rfl⟩
        · have hq : (x == t) = false := by simpa using hxt
          rw [hq] at HF
          clear hxt
          go_wp2_with fail
          refine (isNan_any x _).mono ?_
          rintro e w' ⟨rfl, rfl⟩
          go_wp2_with fail
          go_ret2
          rw [HB.out, HF.out]
          exact ⟨rfl, rfl⟩
      · obtain rfl : i = n := by omega
        have HF := hide (show fndB t l = false by rw [fndB, HB.out, List.getElem?_eq_none (by rw [HN.out]; exact Nat.le_refl _)]; rfl)
        go_wp2_with fail
        go_ret2
        rw [HB.out, HF.out]
        exact ⟨rfl, rfl⟩
end Go.Proofs.YtmfohnchnbgbaaaGreatDoor

/- A step's value on a day. -/
namespace Go.Proofs.YtmfohnchnbgbaaaGreatDoor
open Go.RowKit

/-- The value of the last place that is not behind a day. -/
def valI (t : Int) : Int → List Int → List Int → Int
  | acc, d :: ds, x :: xs => if d ≤ t then valI t x ds xs else acc
  | acc, _, _ => acc
theorem rsG_ris : ∀ {a v : List Int} {day val : Int}, rsG day val a v = true → Ris (day :: a)
  | [], [], _, _, _ => trivial
  | d :: ds, x :: xs, day, val, h => by
    rw [rsG, Bool.and_eq_true, okP, Bool.and_eq_true, decide_eq_true_eq] at h
    exact ⟨h.1.1.1, rsG_ris h.2⟩
  | [], _ :: _, _, _, h => by cases h
  | _ :: _, [], _, _, h => by cases h
theorem valI_hi : ∀ {a v : List Int} {t acc : Int}, (∀ x ∈ a, t < x) → valI t acc a v = acc
  | [], v, _, _, _ => by cases v <;> rfl
  | d :: ds, [], _, _, _ => rfl
  | d :: ds, x :: xs, t, acc, h => by
    have := h d (by simp)
    rw [valI, if_neg (by omega)]
theorem valI_eq : ∀ {a v : List Int} {t acc : Int}, Ris a → a.length = v.length → valI t acc a v = if fndB t a = true then (v[bsI t a]?).getD 0 else if bsI t a = 0 then acc else (v[bsI t a - 1]?).getD 0
  | [], [], t, acc, _, _ => by simp [valI, bsI, fndB]
  | [], _ :: _, _, _, _, h => by simp at h
  | _ :: _, [], _, _, _, h => by simp at h
  | d :: ds, x :: xs, t, acc, hr, hl => by
    rw [valI]
    rcases Int.lt_trichotomy d t with h | h | h
    · rw [if_pos (by omega), valI_eq hr.tail (by simpa using hl)]
      have hb : bsI t (d :: ds) = bsI t ds + 1 := by rw [bsI, if_pos h]
      have hf : fndB t (d :: ds) = fndB t ds := by rw [fndB, fndB, hb]; simp
      rw [hb, hf]
      by_cases hq : fndB t ds = true
      · rw [if_pos hq, if_pos hq]; simp
      · rw [if_neg hq, if_neg hq, if_neg (show ¬bsI t ds + 1 = 0 by omega)]
        by_cases h0 : bsI t ds = 0
        · rw [if_pos h0, h0]; simp
        · rw [if_neg h0]
          obtain ⟨m, hm⟩ : ∃ m, bsI t ds = m + 1 := ⟨bsI t ds - 1, by omega⟩
          rw [hm]; simp
    · have hb : bsI t (d :: ds) = 0 := by rw [bsI, if_neg (by omega)]
      have hf : fndB t (d :: ds) = true := by rw [fndB, hb]; simp [h]
      rw [if_pos (by omega), if_pos hf, hb, valI_hi (fun y hy => by have := hr.lt_all y hy; omega)]
      simp
    · have hb : bsI t (d :: ds) = 0 := by rw [bsI, if_neg (by omega)]
      have hf : ¬fndB t (d :: ds) = true := by rw [fndB, hb]; simp; omega
      rw [if_neg (by omega), if_neg hf, if_pos hb]
theorem bsI_le : ∀ (t : Int) (l : List Int), bsI t l ≤ l.length
  | _, [] => Nat.le_refl _
  | t, a :: r => by
    rw [bsI, List.length_cons]
    have := bsI_le t r
    split <;> omega

set_option maxHeartbeats 2000000 in
theorem value_any (A A2 : Option Addr) (n cap cap2 : Nat) (a v : List Int) (t : Int) (w : World) (hs : SV w 1 A n cap (a.map encI)) (hs2 : SV w 1 A2 n cap2 (v.map encI)) (hr : stepRB a v = true) (hn6 : n ≤ 1000000) :
    Calls Tryz.prog 158 #[.agg #[.slice A n cap, .slice A2 n cap2], .int .i64 t] w fun e w' => e = .returned (.int .i64 (valI t 0 a v)) ∧ Below w.heap.size w w' := by
  have hn : a.length = n := by have := hs.len; simpa using this
  have hn2 : v.length = n := by have := hs2.len; simpa using this
  have hri : Ris a := (rsG_ris hr).tail
  obtain ⟨V, hV⟩ : ∃ V, valI t 0 a v = V := ⟨_, rfl⟩
  have HVE := hide (valI_eq (t := t) (acc := 0) hri (hn.trans hn2.symm))
  rw [hV] at HVE ⊢
  have hble := bsI_le t a
  obtain ⟨i, hi⟩ : ∃ i, bsI t a = i := ⟨_, rfl⟩
  obtain ⟨B, hB⟩ : ∃ B, fndB t a = B := ⟨_, rfl⟩
  have HFB := hide hB
  have HFI := hide hi
  rw [hi, hn] at hble
  rw [hi, hB] at HVE
  obtain ⟨w1, hw1⟩ : ∃ W, w.alloc (.cells #[.slice A n cap, .slice A2 n cap2] 127) = W := ⟨_, rfl⟩
  have hBl : Blk w1 w.heap.size 127 #[.slice A n cap, .slice A2 n cap2] := by rw [← hw1]; exact Blk.new _ _ _
  have hb1 : Below w.heap.size w w1 := by rw [← hw1]; exact (Below.refl _ _).alloc (Nat.le_refl _) _
  have HBS := hide (bs_any A n cap a t w1 (hs.below hb1) hri hn6)
  rw [hi, hB] at HBS
  have z0 := hBl.cell 0
  have z1 := hBl.cell 1
  simp at z0 z1
  have HW := hide hw1
  have H1 := hide hb1
  have HN := hide hn
  have HN2 := hide hn2
  have HS2 := hide (hs2.below hb1)
  have hle2 := hs2.le
  clear hn hn2 hs hs2 hr hri hV hi hB hw1 hBl hb1
  go_enter Tryz.func158, Tryz.ntmps158
  go_wp2_with fail
  rw [show w.alloc (.cells #[.slice A n cap, .slice A2 n cap2] 127) = w1 from HW.out]
  refine HBS.out.mono ?_
  rintro e w' ⟨rfl, rfl⟩
  cases B
  · rcases (show i = 0 ∨ 0 < i by omega) with rfl | hpos
    · have hV : V = 0 := by have := HVE.out; simpa using this
      subst hV
      go_wp2_with fail
      go_ret
      exact ⟨rfl, H1.out⟩
    · obtain ⟨j, rfl⟩ : ∃ j, i = j + 1 := ⟨i - 1, by omega⟩
      obtain ⟨x, hx⟩ := get_of (l := v) (k := j) (by rw [HN2.out]; omega)
      have hV : V = x := by have := HVE.out; simpa [hx] using this
      subst hV
      obtain ⟨b, off, rfl, hbl, c0⟩ := HS2.out.sl.i hx
      have hk0 : (0 : Int) ≤ (j : Int) := by omega
      have hk1 : (j : Int) < (n : Int) := by omega
      clear hx
      go_wp2_with fail
      go_ret
      exact ⟨rfl, H1.out⟩
  · have hin : i < n := by
      have := HFB.out
      rw [fndB, HFI.out] at this
      have h2 : a[i]? = some t := by simpa using this
      have := lt_of_get h2
      rw [HN.out] at this
      exact this
    obtain ⟨x, hx⟩ := get_of (l := v) (k := i) (by rw [HN2.out]; omega)
    have hV : V = x := by have := HVE.out; simpa [hx] using this
    subst hV
    obtain ⟨b, off, rfl, hbl, c0⟩ := HS2.out.sl.i hx
    have hk0 : (0 : Int) ≤ (i : Int) := by omega
    have hk1 : (i : Int) < (n : Int) := by omega
    clear hx
    go_wp2_with fail
    go_ret
    exact ⟨rfl, H1.out⟩
end Go.Proofs.YtmfohnchnbgbaaaGreatDoor
