/- Part 8 of the proof. -/
import Derived.Deep.RegionHeld3
import Derived.Test.YtmfohnchnbgbaaaGreatDoorYpM06
import Derived.Test.YtmfohnchnbgbaaaGreatDoorYpM07
/- A product divided, to the nearest one: the program's. -/
namespace Go.Proofs.YtmfohnchnbgbaaaGreatDoor
open Go.RowKit

/-- Up to the nearest one, or the even one. -/
def upN (q r c : Nat) : Nat := if c - r < r ∨ (r = c - r ∧ q % 2 = 1) then q + 1 else q
/-- a times b by c; what is amiss. -/
def evN (a b c : Nat) : Nat := upN (a * b / c) (a * b % c) c
def evE (a b c : Nat) : Int := if evN a b c ≤ 4000000000000000000 then 0 else 5
def evQ (a b c : Nat) : Nat := if evN a b c ≤ 4000000000000000000 then evN a b c else 0
theorem upN_ge (q r c : Nat) : q ≤ upN q r c ∧ upN q r c ≤ q + 1 := by unfold upN; split <;> omega

def upB (q r c : Nat) : Bool := decide (c - r < r ∨ (r = c - r ∧ q % 2 = 1))
set_option maxRecDepth 100000 in
theorem up1_any (q r c : Nat) (hq : q < 18446744073709551616) (hr : r < c) (hc : c < 9223372036854775808) (w : World) :
    Calls Tryz.prog 159 #[.int .u64 q, .int .u64 r, .int .u64 c] w fun e w' => e = .returned (.bool (upB q r c)) ∧ w' = w := by
  obtain ⟨d, hd⟩ : ∃ d, c - r = d := ⟨_, rfl⟩
  have E1 : IntKind.u64.wrap ((c : Int) - (r : Int)) = (d : Int) := by rw [show (c : Int) - (r : Int) = (d : Int) by omega]; exact Mul64.wrapN _ (by omega)
  have HD := hide hd
  clear hd
  by_cases h1 : d < r
  · have h1' : (d : Int) < (r : Int) := by omega
    have HU := hide (show upB q r c = true by unfold upB; rw [HD.out]; simp; omega)
    go_enter Tryz.func159, Tryz.ntmps159
    go_wp2_with fail
    go_ret
    exact ⟨ret_bool HU.out.symm, rfl⟩
  · have h1' : ¬ (d : Int) < (r : Int) := by omega
    by_cases h2 : r = d
    · subst h2
      have h2' : ((r : Int) == (r : Int)) = true := by simp
      rcases Nat.mod_two_eq_zero_or_one q with h3 | h3
      · have h3' : (q : Int) % 2 = 0 := by omega
        have HU := hide (show upB q r c = false by unfold upB; rw [HD.out]; simp; omega)
        clear h3
        go_enter Tryz.func159, Tryz.ntmps159
        go_wp2_with fail
        go_ret
        exact ⟨ret_bool HU.out.symm, rfl⟩
      · have h3' : (q : Int) % 2 = 1 := by omega
        have HU := hide (show upB q r c = true by unfold upB; rw [HD.out]; simp; omega)
        clear h3
        go_enter Tryz.func159, Tryz.ntmps159
        go_wp2_with fail
        go_ret
        exact ⟨ret_bool HU.out.symm, rfl⟩
    · have h2' : ((r : Int) == (d : Int)) = false := by simp; omega
      have HU := hide (show upB q r c = false by unfold upB; rw [HD.out]; simp; omega)
      go_enter Tryz.func159, Tryz.ntmps159
      go_wp2_with fail
      go_ret
      exact ⟨ret_bool HU.out.symm, rfl⟩

set_option maxRecDepth 100000 in
set_option maxHeartbeats 1000000 in
theorem of_any_Lad (a b c : Nat) (ha : a ≤ 9223372036854775807) (hb : b ≤ 9223372036854775807) (hc : c ≤ 9223372036854775807) (hc0 : 0 < c) (w : World) :
    Calls Tryz.prog 134 #[.agg #[.func (.func 159) #[] #[]], .int .i64 a, .int .i64 b, .int .i64 c] w
      fun e w' => e = .returned (.tuple #[.int .i64 (evQ a b c : Nat), .int .i64 (evE a b c)]) ∧ Below w.heap.size w w' := by
  have ha0 : ¬ (a : Int) < 0 := by omega
  have hb0 : ¬ (b : Int) < 0 := by omega
  have hcz : ¬ (c : Int) < 0 := by omega
  have hcy : ((c : Int) == 0) = false := by simp; omega
  have C1 : IntKind.u64.wrap (a : Int) = (a : Int) := Mul64.wrapN _ (by omega)
  have C2 : IntKind.u64.wrap (b : Int) = (b : Int) := Mul64.wrapN _ (by omega)
  have C3 : IntKind.u64.wrap (c : Int) = (c : Int) := Mul64.wrapN _ (by omega)
  go_enter Tryz.func134, Tryz.ntmps134
  go_wp2_with fail
  refine (mul64_any a b (by omega) (by omega) _).mono ?_
  rintro e w1 ⟨rfl, rfl⟩
  obtain ⟨p, hp⟩ : ∃ p, a * b = p := ⟨_, rfl⟩
  rw [hp]
  obtain ⟨hi, hhi⟩ : ∃ z, p / 18446744073709551616 = z := ⟨_, rfl⟩
  obtain ⟨lo, hlo⟩ : ∃ z, p % 18446744073709551616 = z := ⟨_, rfl⟩
  rw [hhi, hlo]
  have hpe : 18446744073709551616 * hi + lo = p := by omega
  have hlob : lo < 18446744073709551616 := by omega
  have HPE := hide hpe
  have HP := hide hp
  clear hhi hlo hpe hp
  by_cases hbig : c ≤ hi
  · have hbig' : (c : Int) ≤ (hi : Int) := by omega
    have HE := hide (show evE a b c = 5 ∧ evQ a b c = 0 by
      have h1 : 18446744073709551616 ≤ a * b / c := by
        rw [HP.out, ← HPE.out]
        refine (Nat.le_div_iff_mul_le hc0).2 ?_
        have : 18446744073709551616 * c ≤ 18446744073709551616 * hi := Nat.mul_le_mul_left _ hbig
        omega
      have h2 := (upN_ge (a * b / c) (a * b % c) c).1
      have h3 : ¬ evN a b c ≤ 4000000000000000000 := by unfold evN; omega
      exact ⟨by rw [evE, if_neg h3], by rw [evQ, if_neg h3]⟩)
    go_wp2_with fail
    go_ret2
    rw [HE.out.1, HE.out.2]
    exact ⟨rfl, (Below.refl _ _).alloc (Nat.le_refl _) _⟩
  · have hbig' : ¬ (c : Int) ≤ (hi : Int) := by omega
    go_wp2_with fail
    refine (div64_any hi lo c hlob (by omega) hc0 (by omega) _).mono ?_
    rintro e w1 ⟨rfl, hb1⟩
    rw [HPE.out]
    have K0 : w1.cell? ⟨w.heap.size, 0, none⟩ = some (.func (.func 159) #[] #[]) := kept hb1 (by simp)
    have HB1 := hide (chain1 hb1)
    obtain ⟨q, hq⟩ : ∃ z, p / c = z := ⟨_, rfl⟩
    obtain ⟨r, hr⟩ : ∃ z, p % c = z := ⟨_, rfl⟩
    rw [hq, hr]
    have hrc : r < c := by rw [← hr]; exact Nat.mod_lt _ hc0
    have hqb : q < 18446744073709551616 := by
      rw [← hq, ← HPE.out]
      refine Nat.div_lt_of_lt_mul ?_
      have : (hi + 1) * 18446744073709551616 ≤ c * 18446744073709551616 := Nat.mul_le_mul_right _ (by omega)
      omega
    have hkl := block_lt_of_cell K0
    have HN := hide (show evN a b c = upN q r c by unfold evN; rw [HP.out, hq, hr])
    clear hb1 hq hr
    by_cases hq4 : 4000000000000000000 < q
    · have hq4' : (4000000000000000000 : Int) < (q : Int) := by omega
      have HE := hide (show evE a b c = 5 ∧ evQ a b c = 0 by
        have h2 := (upN_ge q r c).1
        have h3 : ¬ evN a b c ≤ 4000000000000000000 := by rw [HN.out]; omega
        exact ⟨by rw [evE, if_neg h3], by rw [evQ, if_neg h3]⟩)
      go_wp2_with fail
      go_ret2
      rw [HE.out.1, HE.out.2]
      exact ⟨rfl, HB1.out⟩
    · have hq4' : ¬ (4000000000000000000 : Int) < (q : Int) := by omega
      go_wp2_with fail
      refine (up1_any q r c hqb hrc (by omega) _).mono ?_
      rintro e w2 ⟨rfl, rfl⟩
      cases hu : upB q r c
      · have hun : upN q r c = q := by unfold upN; rw [if_neg (of_decide_eq_false hu)]
        have HE := hide (show evE a b c = 0 ∧ evQ a b c = q by
          have h3 : evN a b c ≤ 4000000000000000000 := by rw [HN.out, hun]; omega
          exact ⟨by rw [evE, if_pos h3], by rw [evQ, if_pos h3, HN.out, hun]⟩)
        clear hu hun
        go_wp2_with fail
        go_ret2
        rw [HE.out.1, HE.out.2]
        exact ⟨rfl, HB1.out⟩
      · have hun : upN q r c = q + 1 := by unfold upN; rw [if_pos (of_decide_eq_true hu)]
        obtain ⟨q2, hq2⟩ : ∃ z, q + 1 = z := ⟨_, rfl⟩
        have F1 : IntKind.u64.wrap ((q : Int) + 1) = (q2 : Int) := by rw [show (q : Int) + 1 = (q2 : Int) by omega]; exact Mul64.wrapN _ (by omega)
        rw [hq2] at hun
        have HU := hide hun
        have hq2b : q2 ≤ 4000000000000000001 := by omega
        clear hu hun hq2
        by_cases hq5 : 4000000000000000000 < q2
        · have hq5' : (4000000000000000000 : Int) < (q2 : Int) := by omega
          have HE := hide (show evE a b c = 5 ∧ evQ a b c = 0 by
            have h3 : ¬ evN a b c ≤ 4000000000000000000 := by rw [HN.out, HU.out]; omega
            exact ⟨by rw [evE, if_neg h3], by rw [evQ, if_neg h3]⟩)
          go_wp2_with fail
          go_ret2
          rw [HE.out.1, HE.out.2]
          exact ⟨rfl, HB1.out⟩
        · have hq5' : ¬ (4000000000000000000 : Int) < (q2 : Int) := by omega
          have HE := hide (show evE a b c = 0 ∧ evQ a b c = q2 by
            have h3 : evN a b c ≤ 4000000000000000000 := by rw [HN.out, HU.out]; omega
            exact ⟨by rw [evE, if_pos h3], by rw [evQ, if_pos h3, HN.out, HU.out]⟩)
          go_wp2_with fail
          go_ret2
          rw [HE.out.1, HE.out.2]
          exact ⟨rfl, HB1.out⟩

theorem even0_any (w : World) : Calls Tryz.prog 133 #[] w fun e w' => e = .returned (.agg #[.func (.func 159) #[] #[]]) ∧ Below w.heap.size w w' := by
  have hst : (store ⟨w.heap.size, 0, none⟩ (.func (.func 159) #[] #[])).run Tryz.prog (w.alloc (.cells #[.nilFunc] 241)) = .ok () ((w.alloc (.cells #[.nilFunc] 241)).setCell ⟨w.heap.size, 0, none⟩ (.func (.func 159) #[] #[])) := by
    rw [run_store Tryz.prog _ ⟨w.heap.size, 0, none⟩ _ _ (by rfl)]
    simp
  go_enter Tryz.func133, Tryz.ntmps133
  go_wp2_with fail
  exact ret_row rfl rfl rfl (Blk.new w 241 #[.func (.func 159) #[] #[]]) Tryz.underlying241 rfl (by kernel_rfl) ⟨rfl, (Below.refl _ _).alloc (Nat.le_refl _) _⟩
theorem even_any (a b c : Nat) (ha : a ≤ 9223372036854775807) (hb : b ≤ 9223372036854775807) (hc : c ≤ 9223372036854775807) (hc0 : 0 < c) (w : World) :
    Calls Tryz.prog 80 #[.int .i64 a, .int .i64 b, .int .i64 c] w
      fun e w' => e = .returned (.tuple #[.int .i64 (evQ a b c : Nat), .int .i64 (evE a b c)]) ∧ Below w.heap.size w w' := by
  obtain ⟨q, hq⟩ : ∃ z, evQ a b c = z := ⟨_, rfl⟩
  obtain ⟨k, hk⟩ : ∃ z, evE a b c = z := ⟨_, rfl⟩
  have HQ := hide hq
  have HK := hide hk
  rw [hq, hk]
  clear hq hk
  go_enter Tryz.func80, Tryz.ntmps80
  go_wp2_with fail
  refine (even0_any w).mono ?_
  rintro e w1 ⟨rfl, hb1⟩
  have HB1 := hide hb1
  clear hb1
  go_wp2_with fail
  refine (of_any_Lad a b c ha hb hc hc0 _).mono ?_
  rintro e w2 ⟨rfl, hb2⟩
  rw [HQ.out, HK.out]
  have HB2 := hide (chain HB1.out hb2)
  clear hb2
  go_wp2_with fail
  go_ret2
  exact ⟨rfl, HB2.out⟩
end Go.Proofs.YtmfohnchnbgbaaaGreatDoor

/- What a year of a cover costs, and of covers. -/
namespace Go.Proofs.YtmfohnchnbgbaaaGreatDoor
open Go.RowKit

theorem bp_any (m b : Nat) (hm : m ≤ 9223372036854775807) (hb : b ≤ 9223372036854775807) (w : World) :
    Calls Tryz.prog 66 #[.int .i64 m, .int .i64 b] w
      fun e w' => e = .returned (.tuple #[.int .i64 (evQ m b 10000 : Nat), .int .i64 (evE m b 10000)]) ∧ Below w.heap.size w w' := by
  obtain ⟨q, hq⟩ : ∃ z, evQ m b 10000 = z := ⟨_, rfl⟩
  obtain ⟨k, hk⟩ : ∃ z, evE m b 10000 = z := ⟨_, rfl⟩
  have HC := hide (even_any m b 10000 hm hb (by omega) (by omega) w)
  rw [hq, hk] at HC
  rw [hq, hk]
  clear hq hk
  go_enter Tryz.func66, Tryz.ntmps66
  go_wp2_with fail
  refine HC.out.mono ?_
  rintro e w1 ⟨rfl, hb1⟩
  have H1 := hide hb1
  clear hb1
  go_wp2_with fail
  go_ret2
  exact ⟨rfl, H1.out⟩

def sliceLen : Value → Nat | .slice _ n _ => n | _ => 0
def AtNext (age : Int) (l : List Bd) (w : World) (a' : Act) (w' : World) : Prop :=
  w' = w ∧ ∃ (A' : Option Addr) (c' : Nat) (r : List Bd) (u5 u6 u7 u8 u9 u10 u11 u12 u13 u14 u15 u16 u17 u18 u19 : Value), a' = { tmps := #[.slice A' r.length c', .int .i64 age, undef, undef, .int .i64 0, u5, u6, u7, u8, u9, u10, u11, u12, u13, u14, u15, u16, u17, u18, u19], defers := [] } ∧
    bandI age r = bandI age l ∧ r.length ≤ l.length ∧ r.length ≤ c' ∧ Sl w w.heap.size 2 A' (r.map encBd)
theorem cutBd {w : World} {B b off : Nat} {x : Bd} {r : List Bd} (c : Nat) (h : Sl w B 2 (some ⟨b, off, none⟩) ((x :: r).map encBd)) (hc : (x :: r).length ≤ c) :
    if c = 1 then Sl w B 2 (some ⟨b, off, none⟩) (r.map encBd) else Sl w B 2 (some ⟨b, off + 2, none⟩) (r.map encBd) := by
  have hh := h.cut (k := 1) (cap := c) (by simpa using hc)
  by_cases h1 : c = 1
  · rw [if_pos h1]
    rw [if_pos h1] at hh
    simpa using hh
  · rw [if_neg h1]
    rw [if_neg h1] at hh
    simpa [Addr.add] using hh

set_option maxHeartbeats 400000 in
theorem band_any (A : Option Addr) (c : Nat) (l : List Bd) (age : Int) (w : World) (hl : Sl w w.heap.size 2 A (l.map encBd)) (hm : l.length ≤ 9223372036854775807) (hc : l.length ≤ c) :
    Calls Tryz.prog 129 #[.slice A l.length c, .int .i64 age] w fun e w' => e = .returned (.int .i64 (bandI age l)) ∧ Below w.heap.size w w' := by
  go_enter Tryz.func129, Tryz.ntmps129
  go_wp2
  refine wp_scope_jumps 0 (AtNext age l w) (fun a' _ => sliceLen (a'.tmps.getD 0 undef)) rfl ?_ ?_
  · go_wp2
    go_step3
    cases l with
    | nil =>
      go_wp2
      simp only [Exit.jump]
      go_ret
      exact ⟨rfl, Below.refl _ _⟩
    | cons x r =>
      obtain ⟨b, off, rfl, hbl, hc0, hc1⟩ := hl.bd (k := 0) (u := x.1) (p := x.2) rfl
      simp only [Nat.zero_mul, Nat.add_zero] at hc0 hc1
      have hne : ((r.length : Int) + 1 == 0) = false := by simp; omega
      have hcut := @cutBd _ _ _ _ _ _ c hl hc
      have HC := hide hcut
      clear hcut
      simp only [List.length_cons] at hm hc
      by_cases ha : x.1 < age
      · go_wp2
        all_goals
          go_step3
          exact ⟨rfl, rfl, _, _, r, _, _, _, _, _, _, _, _, _, _, _, _, _, _, _, rfl, by rw [bandI, if_pos ha], by simp, by omega, by have h := HC.out; first | (rw [if_pos (by omega)] at h; exact h) | (rw [if_neg (by omega)] at h; exact h)⟩
      · go_wp2
        simp only [Exit.jump]
        go_ret
        exact ⟨by rw [bandI, if_neg (by omega)]; rfl, Below.refl _ _⟩
  · rintro a' w' ⟨rfl, A', c', r, u5, u6, u7, u8, u9, u10, u11, u12, u13, u14, u15, u16, u17, u18, u19, rfl, hs, hlen, hc', hl'⟩
    cases r with
    | nil =>
      go_wp2
      simp only [Exit.jump]
      go_ret
      exact ⟨by rw [← hs]; rfl, Below.refl _ _⟩
    | cons x r =>
      obtain ⟨b, off, rfl, hbl, hc0, hc1⟩ := hl'.bd (k := 0) (u := x.1) (p := x.2) rfl
      simp only [Nat.zero_mul, Nat.add_zero] at hc0 hc1
      have hne : ((r.length : Int) + 1 == 0) = false := by simp; omega
      have hcut := @cutBd _ _ _ _ _ _ c' hl' hc'
      have HC := hide hcut
      have HS := hide hs
      clear hcut hs
      simp only [List.length_cons] at hlen hc'
      by_cases ha : x.1 < age
      · go_wp2
        all_goals
          go_step3
          refine ⟨rfl, ⟨rfl, _, _, r, _, _, _, _, _, _, _, _, _, _, _, _, _, _, _, rfl, by rw [← HS.out, bandI, if_pos ha], by omega, by omega, by have h := HC.out; first | (rw [if_pos (by omega)] at h; exact h) | (rw [if_neg (by omega)] at h; exact h)⟩, Nat.lt_succ_self r.length⟩
      · go_wp2
        simp only [Exit.jump]
        go_ret
        exact ⟨by rw [← HS.out, bandI, if_neg (by omega)]; rfl, Below.refl _ _⟩
theorem bandI_bd {age : Int} : ∀ {l : List Bd} {last : Int}, rise last l = true → 0 ≤ bandI age l ∧ bandI age l ≤ 100000
  | [], _, _ => by simp [bandI]
  | x :: r, last, h => by
    rw [rise] at h
    split at h
    · cases h
    · rw [bandI]
      split
      · exact bandI_bd h
      · omega

/-- A chain of factors, each in parts of 10000. -/
def chainN : Nat → List Nat → Option Nat
  | m, [] => some m
  | m, b :: r => if evE m b 10000 = 0 then chainN (evQ m b 10000) r else none
def facsN (v : Ver) (k a z : Int) (c : Cv) : List Nat := [(([v.b0, v.b1, v.b2, v.b3][k.toNat]?).getD 0).toNat, (bandI a v.age).toNat, ((v.zone[z.toNat]?).getD 0).toNat, ((v.peril[c.p.toNat]?).getD 0).toNat, c.sh.toNat]
def eOf : Option Nat → Int
  | none => 5
  | some _ => 0
def vOf (mn : Int) : Option Nat → Int
  | none => 0
  | some m => max (m : Int) mn
def oneE (v : Ver) (k vl a z : Int) (c : Cv) : Int :=
  if versionB v && (riskB k vl a z && coverB c) then (if (v.zone.length : Int) ≤ z then 7 else eOf (chainN vl.toNat (facsN v k a z c))) else 1
def oneV (v : Ver) (k vl a z : Int) (c : Cv) : Int :=
  if versionB v && (riskB k vl a z && coverB c) then (if (v.zone.length : Int) ≤ z then 0 else vOf v.mn (chainN vl.toNat (facsN v k a z c))) else 0
theorem oneE_yes {v : Ver} {k vl a z : Int} {c : Cv} (h1 : versionB v = true) (h2 : riskB k vl a z = true) (h3 : coverB c = true) (h4 : ¬(v.zone.length : Int) ≤ z) : oneE v k vl a z c = eOf (chainN vl.toNat (facsN v k a z c)) ∧ oneV v k vl a z c = vOf v.mn (chainN vl.toNat (facsN v k a z c)) := by
  simp only [oneE, oneV, h1, h2, h3, h4, Bool.and_true, if_true, if_false, and_self]
theorem risk_is {k v a z : Int} {b : Bool} (h : riskB k v a z = b) (w : World) :
    Calls Tryz.prog 118 #[.agg #[.int .i64 k, .int .i64 v, .int .i64 a, .int .i64 z]] w fun e w' => e = .returned (.bool b) ∧ Below w.heap.size w w' := by
  subst h; exact risk_any k v a z w
theorem version_is {x : Vw} {b : Bool} (h : versionB x.v = b) (w : World) (hs : VOK w x) :
    Calls Tryz.prog 128 #[.agg #[.int .i64 x.f, .int .i64 x.b0, .int .i64 x.b1, .int .i64 x.b2, .int .i64 x.b3, .slice x.aA x.age.length x.aC, .slice x.zA x.zone.length x.zC, .slice x.pA x.peril.length x.pC, .int .i64 x.mn]] w fun e w' => e = .returned (.bool b) ∧ Below w.heap.size w w' := by
  subst h; exact version_any x w hs
theorem evQ_le4 (a b c : Nat) : evQ a b c ≤ 4000000000000000000 := by unfold evQ; split <;> omega
theorem facB_get {l : List Int} {k : Nat} {n : Int} (h : facB l = true) (hn : l[k]? = some n) : 0 ≤ n ∧ n ≤ 100000 := by
  rw [facB, List.all_eq_true] at h
  simpa using h n (List.mem_of_getElem? hn)
theorem evE_or (a b c : Nat) : evE a b c = 0 ∨ evE a b c = 5 := by unfold evE; split <;> simp
def OneP (e v : Int) (w : World) (en : Ending) (w' : World) : Prop := en = .returned (.tuple #[.int .i64 v, .int .i64 e]) ∧ Below w.heap.size w w'

set_option maxRecDepth 100000 in
set_option maxHeartbeats 4000000 in
theorem one_any (x : Vw) (k vl a z : Int) (c : Cv) (w : World) (hs : VOK w x) (hc : okCv c) :
    Calls Tryz.prog 77 #[.agg #[.int .i64 x.f, .int .i64 x.b0, .int .i64 x.b1, .int .i64 x.b2, .int .i64 x.b3, .slice x.aA x.age.length x.aC, .slice x.zA x.zone.length x.zC, .slice x.pA x.peril.length x.pC, .int .i64 x.mn], .agg #[.int .i64 k, .int .i64 vl, .int .i64 a, .int .i64 z], .agg #[.int .i64 c.p, .int .i64 c.lim, .int .i64 c.agg, .int .i64 c.ded, .int .i64 c.sh]] w (OneP (oneE x.v k vl a z c) (oneV x.v k vl a z c) w) := by
  obtain ⟨E, hE⟩ : ∃ E, oneE x.v k vl a z c = E := ⟨_, rfl⟩
  obtain ⟨V, hV⟩ : ∃ V, oneV x.v k vl a z c = V := ⟨_, rfl⟩
  have HE := hide hE
  have HV := hide hV
  rw [hE, hV]
  clear hE hV
  have HS := hide hs
  have HC := hide hc
  clear hs hc
  obtain ⟨w3, hw3⟩ : ∃ W, ((w.alloc (.cells (boxV x) 114)).alloc (.cells #[.int .i64 k, .int .i64 vl, .int .i64 a, .int .i64 z] 58)).alloc (.cells #[.int .i64 c.p, .int .i64 c.lim, .int .i64 c.agg, .int .i64 c.ded, .int .i64 c.sh] 41) = W := ⟨_, rfl⟩
  have hB0 : Blk w3 w.heap.size 114 (boxV x) := by rw [← hw3]; exact ((Blk.new _ _ _).alloc _).alloc _
  have hB1 : Blk w3 (w.heap.size + 1) 58 #[.int .i64 k, .int .i64 vl, .int .i64 a, .int .i64 z] := by rw [← hw3]; exact (Blk.new' (by simp)).alloc _
  have hB2 : Blk w3 (w.heap.size + 1 + 1) 41 #[.int .i64 c.p, .int .i64 c.lim, .int .i64 c.agg, .int .i64 c.ded, .int .i64 c.sh] := by rw [← hw3]; exact Blk.new' (by simp)
  have hb3 : Below w.heap.size w w3 := by rw [← hw3]; exact (((Below.refl _ _).alloc (Nat.le_refl _) _).alloc (by simp) _).alloc (by simp; omega) _
  have HW := hide hw3
  have H3 := hide hb3
  have HB0 := hide hB0
  have HB1 := hide hB1
  have HB2 := hide hB2
  have HS3 := hide (HS.out.below hb3)
  clear hw3 hb3 hB0 hB1 hB2
  obtain ⟨b1, hb1⟩ : ∃ b, versionB x.v = b := ⟨_, rfl⟩
  obtain ⟨b2, hb2⟩ : ∃ b, riskB k vl a z = b := ⟨_, rfl⟩
  obtain ⟨b3, hb3⟩ : ∃ b, coverB c = b := ⟨_, rfl⟩
  have K1 := hide hb1
  have K2 := hide hb2
  have K3 := hide hb3
  clear hb1 hb2 hb3
  have lt0 := HB0.out.lt
  have lt1 := HB1.out.lt
  have lt2 := HB2.out.lt
  go_enter Tryz.func77, Tryz.ntmps77
  go_wp2_with fail
  go_step3
  have v0 := HB0.out.cell 0
  have v1 := HB0.out.cell 1
  have v2 := HB0.out.cell 2
  have v3 := HB0.out.cell 3
  have v4 := HB0.out.cell 4
  have v5 := HB0.out.cell 5
  have v6 := HB0.out.cell 6
  have v7 := HB0.out.cell 7
  have v8 := HB0.out.cell 8
  simp [boxV] at v0 v1 v2 v3 v4 v5 v6 v7 v8
  have r0 := HB1.out.cell 0
  have r1 := HB1.out.cell 1
  have r2 := HB1.out.cell 2
  have r3 := HB1.out.cell 3
  simp at r0 r1 r2 r3
  have c0 := HB2.out.cell 0
  have c1 := HB2.out.cell 1
  have c2 := HB2.out.cell 2
  have c3 := HB2.out.cell 3
  have c4 := HB2.out.cell 4
  simp at c0 c1 c2 c3 c4
  go_wp2_with fail
  rw [show ((w.alloc (.cells #[.int .i64 x.f, .int .i64 x.b0, .int .i64 x.b1, .int .i64 x.b2, .int .i64 x.b3, .slice x.aA x.age.length x.aC, .slice x.zA x.zone.length x.zC, .slice x.pA x.peril.length x.pC, .int .i64 x.mn] 114)).alloc (.cells #[.int .i64 k, .int .i64 vl, .int .i64 a, .int .i64 z] 58)).alloc (.cells #[.int .i64 c.p, .int .i64 c.lim, .int .i64 c.agg, .int .i64 c.ded, .int .i64 c.sh] 41) = w3 from HW.out]
  refine (version_is K1.out _ HS3.out).mono ?_
  rintro e w4 ⟨rfl, h4⟩
  cases b1
  · have hE : E = 1 := by rw [← HE.out, oneE, K1.out]; rfl
    have hV : V = 0 := by rw [← HV.out, oneV, K1.out]; rfl
    subst hE hV
    have H4 := hide (chain H3.out h4)
    clear h4
    go_wp2_with fail
    go_ret2
    exact ⟨rfl, H4.out⟩
  have q0 := kept h4 r0
  have q1 := kept h4 r1
  have q2 := kept h4 r2
  have q3 := kept h4 r3
  have H4 := hide h4
  clear h4
  go_wp2_with fail
  refine (risk_is K2.out _).mono ?_
  rintro e w5 ⟨rfl, h5⟩
  cases b2
  · have hE : E = 1 := by rw [← HE.out, oneE, K1.out, K2.out]; rfl
    have hV : V = 0 := by rw [← HV.out, oneV, K1.out, K2.out]; rfl
    subst hE hV
    have H5 := hide (chain H3.out (chain H4.out h5))
    clear h5
    go_wp2_with fail
    go_ret2
    exact ⟨rfl, H5.out⟩
  have d0 := kept (chain H4.out h5) c0
  have d1 := kept (chain H4.out h5) c1
  have d2 := kept (chain H4.out h5) c2
  have d3 := kept (chain H4.out h5) c3
  have d4 := kept (chain H4.out h5) c4
  have H5 := hide (chain H4.out h5)
  clear h5
  go_wp2_with fail
  refine (cover_is K3.out HC.out _).mono ?_
  rintro e w6 ⟨rfl, h6⟩
  cases b3
  · have hE : E = 1 := by rw [← HE.out, oneE, K1.out, K2.out, K3.out]; rfl
    have hV : V = 0 := by rw [← HV.out, oneV, K1.out, K2.out, K3.out]; rfl
    subst hE hV
    have H6 := hide (chain H3.out (chain H5.out h6))
    clear h6
    go_wp2_with fail
    go_ret2
    exact ⟨rfl, H6.out⟩
  have hb6 := chain H5.out h6
  have H6 := hide hb6
  have r0 := kept hb6 r0
  have r1 := kept hb6 r1
  have r2 := kept hb6 r2
  have r3 := kept hb6 r3
  have e0 := kept hb6 c0
  have e4 := kept hb6 c4
  have HB := hide (HB0.out.below hb6 lt0)
  have v5 := kept hb6 v5
  have v6 := kept hb6 v6
  have v7 := kept hb6 v7
  have v8 := kept hb6 v8
  clear h6 hb6 q0 q1 q2 q3 d0 d1 d2 d3 d4 c0 c1 c2 c3 c4 v0 v1 v2 v3 v4
  by_cases hz : (x.zone.length : Int) ≤ z
  · have hE : E = 7 := by rw [← HE.out, oneE, K1.out, K2.out, K3.out]; simp [Vw.v, hz]
    have hV : V = 0 := by rw [← HV.out, oneV, K1.out, K2.out, K3.out]; simp [Vw.v, hz]
    subst hE hV
    go_wp2_with fail
    go_ret2
    exact ⟨rfl, chain H3.out H6.out⟩
  have hR : 0 ≤ k ∧ k < 4 ∧ 1 ≤ vl ∧ vl ≤ 1000000000000000 ∧ 0 ≤ a ∧ a ≤ 200 ∧ 0 ≤ z ∧ z < 100 := of_decide_eq_true K2.out
  have hP : 0 ≤ c.p ∧ c.p < 8 ∧ 1 ≤ c.sh ∧ c.sh ≤ 10000 ∧ 0 ≤ c.ded ∧ c.ded < c.lim ∧ c.lim ≤ c.agg ∧ c.agg ≤ 1000000000000000 := of_decide_eq_true K3.out
  have hVB := K1.out
  simp only [versionB, Bool.and_eq_true] at hVB
  obtain ⟨hn1, hl1, fb0, fz0, fp0, ba0⟩ := hVB
  rw [numsB_iff] at hn1
  rw [lensB_iff] at hl1
  have HR := hide hR
  obtain ⟨kn, rfl⟩ : ∃ n : Nat, k = n := ⟨k.toNat, by omega⟩
  obtain ⟨vn, rfl⟩ : ∃ n : Nat, vl = n := ⟨vl.toNat, by omega⟩
  obtain ⟨zn, rfl⟩ : ∃ n : Nat, z = n := ⟨z.toNat, by omega⟩
  obtain ⟨cp, cl, ca, cd, cs⟩ := c
  simp only at hP e0 e4
  obtain ⟨pn, rfl⟩ : ∃ n : Nat, cp = n := ⟨cp.toNat, by omega⟩
  obtain ⟨sn, rfl⟩ : ∃ n : Nat, cs = n := ⟨cs.toNat, by omega⟩
  obtain ⟨xb, hxb⟩ := get_of (l := [x.b0, x.b1, x.b2, x.b3]) (k := kn) (by simp; omega)
  obtain ⟨xz, hxz⟩ := get_of (l := x.zone) (k := zn) (by omega)
  obtain ⟨xp, hxp⟩ := get_of (l := x.peril) (k := pn) (by omega)
  have bxb := facB_get fb0 hxb
  have bxz := facB_get fz0 hxz
  have bxp := facB_get fp0 hxp
  have bxa : 0 ≤ bandI a x.age ∧ bandI a x.age ≤ 100000 := by
    have := ba0
    simp only [bandsB, Bool.and_eq_true] at this
    exact bandI_bd this.1
  obtain ⟨fb, rfl⟩ : ∃ n : Nat, xb = n := ⟨xb.toNat, by omega⟩
  obtain ⟨fz, rfl⟩ : ∃ n : Nat, xz = n := ⟨xz.toNat, by omega⟩
  obtain ⟨fp, rfl⟩ : ∃ n : Nat, xp = n := ⟨xp.toNat, by omega⟩
  obtain ⟨fa, hfa⟩ : ∃ n : Nat, bandI a x.age = n := ⟨(bandI a x.age).toNat, by omega⟩
  rw [hfa] at bxa
  have HF := hide (show facsN x.v kn a zn ⟨pn, cl, ca, cd, sn⟩ = [fb, fa, fz, fp, sn] by
    simp only [facsN, Int.toNat_natCast]
    rw [show [x.v.b0, x.v.b1, x.v.b2, x.v.b3][kn]? = some (fb : Int) from hxb, show x.v.zone[zn]? = some (fz : Int) from hxz, show x.v.peril[pn]? = some (fp : Int) from hxp, show bandI a x.v.age = (fa : Int) from hfa]
    rfl)
  have HS6 := hide (HS3.out.below H6.out)
  have HBD := hide (show ∀ W, Below w6.heap.size w6 W → Calls Tryz.prog 129 #[.slice x.aA x.age.length x.aC, .int .i64 a] W fun e w' => e = .returned (.int .i64 (fa : Int)) ∧ Below w6.heap.size w6 w' from fun W hW =>
    (band_any x.aA x.aC x.age a W (HS6.out.age.below hW).sl (by have := HS6.out.age.le; have := HS6.out.age.most; unfold maxLen at this; omega) HS6.out.age.le).mono fun e w' h => ⟨by rw [h.1, hfa], chain hW h.2⟩)
  obtain ⟨zb, zo, hzA, -, cz⟩ := HS6.out.zone.sl.i hxz
  obtain ⟨pb, po, hpA, -, cpp⟩ := HS6.out.peril.sl.i hxp
  rw [hzA] at v6
  rw [hpA] at v7
  have cb : w6.cell? ⟨w.heap.size, 1 + kn, none⟩ = some (.int .i64 (fb : Int)) := by
    rw [HB.out.cell]
    rcases (show kn = 0 ∨ kn = 1 ∨ kn = 2 ∨ kn = 3 by omega) with rfl | rfl | rfl | rfl <;> (simp at hxb; simp [boxV, hxb])
  have hzl : (zn : Int) < (x.zone.length : Int) := by omega
  have hpl : (pn : Int) < (x.peril.length : Int) := by omega
  have hk4 : (kn : Int) < 4 := by omega
  have n1 : (0 : Int) ≤ (zn : Int) := by omega
  have n2 : (0 : Int) ≤ (pn : Int) := by omega
  have n3 : (0 : Int) ≤ (kn : Int) := by omega
  clear fb0 fz0 fp0 ba0 hxb hxz hxp hfa hzA hpA hR hz hl1
  have hzz := hide hzl
  have hzd : decide (x.zone.length ≤ zn) = false := by simp; omega
  go_wp2_with fail
  go_step3
  go_wp2_with fail
  refine wp_region_class (fun W => Below w6.heap.size w6 W) (by kernel_rfl) (by kernel_rfl) (Below.refl _ _).drew ?_
  repeat (first
    | go_big_quiet_skip
    | (go_big_quiet_want
       first
         | (go_big_quiet_op
            go_big_quiet_on)
         | (refine quiet_call (v := .int .i64 (fa : Int)) (f := 129) (args := #[.slice x.aA x.age.length x.aC, .int .i64 a]) ?_ ?_ ?_
            · intro W hW
              have r0 := kept hW r0
              have r2 := kept hW r2
              have r3 := kept hW r3
              have e0 := kept hW e0
              have e4 := kept hW e4
              have v5 := kept hW v5
              have v6 := kept hW v6
              have v7 := kept hW v7
              have v8 := kept hW v8
              have cz := kept hW cz
              have cpp := kept hW cpp
              have cb := kept hW cb
              clear hW
              go_simp
              done
            · intro W hW
              exact HBD.out W hW
            simp only [Act.put, List.setIfInBounds_toArray, List.set_cons_zero, List.set_cons_succ]
            go_big_quiet_on)
         | (refine quiet_yield (v := ?_) ?_ ?_
            rotate_left
            · intro W hW
              have r0 := kept hW r0
              have r2 := kept hW r2
              have r3 := kept hW r3
              have e0 := kept hW e0
              have e4 := kept hW e4
              have v5 := kept hW v5
              have v6 := kept hW v6
              have v7 := kept hW v7
              have v8 := kept hW v8
              have cz := kept hW cz
              have cpp := kept hW cpp
              have cb := kept hW cb
              clear hW
              go_simp
              try with_reducible rfl
            simp only [Act.put, List.setIfInBounds_toArray, List.set_cons_zero, List.set_cons_succ]
            go_big_quiet_on)))
  refine wpQuiet_nil ?_
  intro W hW
  have HW6 := hide hW
  clear hW hzd r0 r1 r2 r3 e0 e4 v5 v6 v7 cz cpp cb n1 n2 n3 hzl hpl hk4 
  have i0 : ∀ w, (Instr.index 234 (.agg #[.int .i64 (fb : Int), .int .i64 (fa : Int), .int .i64 (fz : Int), .int .i64 (fp : Int), .int .i64 (sn : Int)]) (.int .i64 0)).run Tryz.prog w = .ok (.int .i64 (fb : Int)) w := fun _ => by kernel_rfl
  have i1 : ∀ w, (Instr.index 234 (.agg #[.int .i64 (fb : Int), .int .i64 (fa : Int), .int .i64 (fz : Int), .int .i64 (fp : Int), .int .i64 (sn : Int)]) (.int .i64 1)).run Tryz.prog w = .ok (.int .i64 (fa : Int)) w := fun _ => by kernel_rfl
  have i2 : ∀ w, (Instr.index 234 (.agg #[.int .i64 (fb : Int), .int .i64 (fa : Int), .int .i64 (fz : Int), .int .i64 (fp : Int), .int .i64 (sn : Int)]) (.int .i64 2)).run Tryz.prog w = .ok (.int .i64 (fz : Int)) w := fun _ => by kernel_rfl
  have i3 : ∀ w, (Instr.index 234 (.agg #[.int .i64 (fb : Int), .int .i64 (fa : Int), .int .i64 (fz : Int), .int .i64 (fp : Int), .int .i64 (sn : Int)]) (.int .i64 3)).run Tryz.prog w = .ok (.int .i64 (fp : Int)) w := fun _ => by kernel_rfl
  have i4 : ∀ w, (Instr.index 234 (.agg #[.int .i64 (fb : Int), .int .i64 (fa : Int), .int .i64 (fz : Int), .int .i64 (fp : Int), .int .i64 (sn : Int)]) (.int .i64 4)).run Tryz.prog w = .ok (.int .i64 (sn : Int)) w := fun _ => by kernel_rfl
  obtain ⟨R, hR⟩ : ∃ R, chainN vn [fb, fa, fz, fp, sn] = R := ⟨_, rfl⟩
  have hyes := oneE_yes K1.out K2.out K3.out (show ¬ (x.v.zone.length : Int) ≤ zn by have := hzz.out; show ¬ (x.zone.length : Int) ≤ zn; omega)
  rw [HF.out, HE.out, HV.out, Int.toNat_natCast, hR] at hyes
  have HEE := hide hyes.1
  have HVV := hide hyes.2
  clear hyes
  have hidx : ∀ j : Nat, j < 5 → ∃ f : Nat, [fb, fa, fz, fp, sn][j]? = some f ∧ f ≤ 100000 ∧ ∀ w, (Instr.index 234 (.agg #[.int .i64 (fb : Int), .int .i64 (fa : Int), .int .i64 (fz : Int), .int .i64 (fp : Int), .int .i64 (sn : Int)]) (.int .i64 (j : Int))).run Tryz.prog w = .ok (.int .i64 (f : Int)) w := by
    intro j hj
    rcases (show j = 0 ∨ j = 1 ∨ j = 2 ∨ j = 3 ∨ j = 4 by omega) with rfl | rfl | rfl | rfl | rfl
    · exact ⟨fb, rfl, by omega, i0⟩
    · exact ⟨fa, rfl, by omega, i1⟩
    · exact ⟨fz, rfl, by omega, i2⟩
    · exact ⟨fp, rfl, by omega, i3⟩
    · exact ⟨sn, rfl, by omega, i4⟩
  have HIX := hide hidx
  have HR2 := hide hR
  have hvn : vn ≤ 4000000000000000000 := by have := HR.out; omega
  clear i0 i1 i2 i3 i4 hidx hR bxb bxz bxp bxa hP hn1
  go_wp2_with fail
  go_loopw [8, 9, 60] (fun q8 q9 q60 wr => ∃ (j m : Nat), j ≤ 5 ∧ m ≤ 4000000000000000000 ∧ q60 = .int .i64 j ∧ q8 = .int .i64 m ∧ q9 = .int .i64 0 ∧ chainN m ([fb, fa, fz, fp, sn].drop j) = R ∧ Below w6.heap.size w6 wr) (fun _ _ q _ => 5 - (RowKit.intOf q).toNat)
  case atStart => exact ⟨0, vn, by omega, hvn, rfl, rfl, rfl, HR2.out, HW6.out⟩
  case round =>
    obtain ⟨j, m, hj, hm, rfl, rfl, rfl, hch, hb⟩ := hrel
    have HCH := hide hch
    have HB7 := hide hb
    have mn9 := kept hb v8
    by_cases hlt : j < 5
    · obtain ⟨f, hf, hfb, hix⟩ := HIX.out j hlt
      have HD := hide (drop_of hf)
      have HFB := hide hfb
      obtain ⟨E1, hE1⟩ : ∃ z, evE m f 10000 = z := ⟨_, rfl⟩
      obtain ⟨Q1, hQ1⟩ : ∃ z, evQ m f 10000 = z := ⟨_, rfl⟩
      have HBP := hide (bp_any m f (by omega) (by omega) wr)
      rw [hE1, hQ1] at HBP
      have hQ2 : Q1 ≤ 4000000000000000000 := by rw [← hQ1]; exact evQ_le4 _ _ _
      have HE1 := hide hE1
      have HQ1 := hide hQ1
      have hor : E1 = 0 ∨ E1 = 5 := by rw [← hE1]; exact evE_or _ _ _
      clear hf hfb hE1 hQ1 hch hb
      rcases hor with rfl | rfl
      · go_wp2_with fail
        refine HBP.out.mono ?_
        rintro e w8 ⟨rfl, hb8⟩
        have HB8 := hide (chain HB7.out hb8)
        clear hb8
        go_wp2_with fail
        go_roundw
        case rel =>
          have hrl : ∃ (j' m' : Nat), j' ≤ 5 ∧ m' ≤ 4000000000000000000 ∧ Value.int .i64 ((j : Int) + 1) = .int .i64 j' ∧ Value.int .i64 (Q1 : Int) = .int .i64 m' ∧ Value.int .i64 0 = .int .i64 0 ∧ chainN m' ([fb, fa, fz, fp, sn].drop j') = R ∧ Below w6.heap.size w6 w8 := ⟨j + 1, Q1, by omega, hQ2, by go_num, rfl, rfl, by
            have := HCH.out
            rw [HD.out, chainN, HE1.out, if_pos rfl, HQ1.out] at this
            exact this, HB8.out⟩
          exact hrl
        case measure => simp [RowKit.intOf]; omega
      · go_wp2_with fail
        refine HBP.out.mono ?_
        rintro e w8 ⟨rfl, hb8⟩
        have HB8 := hide (chain HB7.out hb8)
        have hRn : R = none := by
          have := HCH.out
          rw [HD.out, chainN, HE1.out, if_neg (by omega)] at this
          exact this.symm
        have hE : E = 5 := by rw [HEE.out, hRn]; rfl
        have hV : V = 0 := by rw [HVV.out, hRn]; rfl
        subst hE hV
        clear hb8 hRn
        go_wp2_with fail
        go_ret2
        exact ⟨rfl, chain H3.out (chain H6.out HB8.out)⟩
    · obtain rfl : j = 5 := by omega
      have hRs : R = some m := by
        have := HCH.out
        simpa [chainN] using this.symm
      have hE : E = 0 := by rw [HEE.out, hRs]; rfl
      have hV := hide (show V = max (m : Int) x.mn by rw [HVV.out, hRs]; rfl)
      subst hE
      clear hRs hch hb
      go_wp2_with fail
      go_ret2
      rw [hV.out]
      exact ⟨rfl, chain H3.out (chain H6.out HB7.out)⟩
end Go.Proofs.YtmfohnchnbgbaaaGreatDoor
