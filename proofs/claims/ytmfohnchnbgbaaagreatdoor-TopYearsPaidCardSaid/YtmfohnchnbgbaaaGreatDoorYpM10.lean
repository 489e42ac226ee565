/- Part 10 of the proof. -/
import Derived.Maps.OwnSet
import Derived.Deep.RegionHeld3
import Derived.Test.YtmfohnchnbgbaaaGreatDoorYpM06
import Derived.Test.YtmfohnchnbgbaaaGreatDoorYpM09
/- What holds: whether the same holds in two slices. -/
namespace Go.Proofs.YtmfohnchnbgbaaaGreatDoor
open Go.RowKit

def cvB (a b : Cv) : Bool := decide (a.p = b.p ∧ a.lim = b.lim ∧ a.agg = b.agg ∧ a.ded = b.ded ∧ a.sh = b.sh)
def alikeB : List Cv → List Cv → Bool
  | [], [] => true
  | a :: r, b :: s => cvB a b && alikeB r s
  | _, _ => false
theorem cvB_eq {a b : Cv} : cvB a b = true ↔ a = b := by
  cases a; cases b; simp [cvB]
theorem alikeB_eq : ∀ {a b : List Cv}, alikeB a b = true ↔ a = b
  | [], [] => by simp [alikeB]
  | a :: r, b :: s => by simp [alikeB, cvB_eq, alikeB_eq (a := r) (b := s)]
  | [], _ :: _ => by simp [alikeB]
  | _ :: _, [] => by simp [alikeB]
theorem alikeB_len {a b : List Cv} (h : a.length ≠ b.length) : alikeB a b = false := by
  rw [Bool.eq_false_iff]; intro h2; exact h (by rw [alikeB_eq.1 h2])

theorem neq_cov (a0 a1 a2 a3 a4 b0 b1 b2 b3 b4 : Int) (w : World) : (binOp .neq 41 (.agg #[.int .i64 a0, .int .i64 a1, .int .i64 a2, .int .i64 a3, .int .i64 a4]) (.agg #[.int .i64 b0, .int .i64 b1, .int .i64 b2, .int .i64 b3, .int .i64 b4])).run Tryz.prog w = .ok (.bool (!decide (a0 = b0 ∧ a1 = b1 ∧ a2 = b2 ∧ a3 = b3 ∧ a4 = b4))) w := by
  by_cases h0 : a0 = b0 <;> by_cases h1 : a1 = b1 <;> by_cases h2 : a2 = b2 <;> by_cases h3 : a3 = b3 <;> by_cases h4 : a4 = b4 <;> simp [go_sem, h0, h1, h2, h3, h4]
theorem eql_risk (a0 a1 a2 a3 b0 b1 b2 b3 : Int) (w : World) : (binOp .eql 58 (.agg #[.int .i64 a0, .int .i64 a1, .int .i64 a2, .int .i64 a3]) (.agg #[.int .i64 b0, .int .i64 b1, .int .i64 b2, .int .i64 b3])).run Tryz.prog w = .ok (.bool (decide (a0 = b0 ∧ a1 = b1 ∧ a2 = b2 ∧ a3 = b3))) w := by
  by_cases h0 : a0 = b0 <;> by_cases h1 : a1 = b1 <;> by_cases h2 : a2 = b2 <;> by_cases h3 : a3 = b3 <;> simp [go_sem, h0, h1, h2, h3]

set_option maxRecDepth 100000 in
set_option maxHeartbeats 2000000 in
theorem alike_any (A A2 : Option Addr) (n n2 cap cap2 : Nat) (l l2 : List Cv) (w : World) (hs : SV w 5 A n cap (l.map encCv)) (hs2 : SV w 5 A2 n2 cap2 (l2.map encCv)) :
    Calls Tryz.prog 124 #[.slice A n cap, .slice A2 n2 cap2] w fun e w' => e = .returned (.bool (alikeB l l2)) ∧ Below w.heap.size w w' := by
  have hn : l.length = n := by have := hs.len; simpa using this
  have hn2 : l2.length = n2 := by have := hs2.len; simpa using this
  have hle := hs.le
  have hmo := hs.most
  unfold maxLen at hmo
  by_cases hne : n = n2
  case neg =>
    have HF := hide (alikeB_len (show l.length ≠ l2.length by omega))
    have hb : ((n : Int) != (n2 : Int)) = true := by simp; omega
    clear hn hn2 hs hs2
    go_enter Tryz.func124, Tryz.ntmps124
    go_wp2_with fail
    go_ret
    exact ⟨ret_bool HF.out.symm, Below.refl _ _⟩
  subst hne
  have HN := hide hn
  have HN2 := hide hn2
  have HS := hide hs
  have HS2 := hide hs2
  clear hn hn2 hs hs2
  go_enter Tryz.func124, Tryz.ntmps124
  go_wp2_with fail
  go_loopw [14] (fun i wr => ∃ k : Nat, k ≤ n ∧ i = .int .i64 k ∧ alikeB l l2 = alikeB (l.drop k) (l2.drop k) ∧ Below w.heap.size w wr) (fun i _ => n - (RowKit.intOf i).toNat)
  case atStart => exact ⟨0, Nat.zero_le _, rfl, rfl, Below.refl _ _⟩
  case round =>
    obtain ⟨k, hk, rfl, ha, hb⟩ := hrel
    have HA := hide ha
    have HB := hide hb
    clear ha
    by_cases hlt : k < n
    · obtain ⟨c, hx⟩ := get_of (l := l) (k := k) (by rw [HN.out]; exact hlt)
      obtain ⟨d, hy⟩ := get_of (l := l2) (k := k) (by rw [HN2.out]; exact hlt)
      obtain ⟨b, off, rfl, hbl, c0, c1, c2, c3, c4⟩ := (HS.out.below hb).sl.cv hx
      obtain ⟨b', off', rfl, hbl', d0, d1, d2, d3, d4⟩ := (HS2.out.below hb).sl.cv hy
      have HD := hide (drop_of hx)
      have HD2 := hide (drop_of hy)
      have hk0 : (0 : Int) ≤ (k : Int) := by omega
      have hk1 : (k : Int) < (n : Int) := by omega
      clear hx hy hb
      obtain ⟨B, hB⟩ : ∃ B, cvB c d = B := ⟨_, rfl⟩
      have hnq : ∀ w, (binOp .neq 41 (.agg #[.int .i64 c.p, .int .i64 c.lim, .int .i64 c.agg, .int .i64 c.ded, .int .i64 c.sh]) (.agg #[.int .i64 d.p, .int .i64 d.lim, .int .i64 d.agg, .int .i64 d.ded, .int .i64 d.sh])).run Tryz.prog w = .ok (.bool (!B)) w := fun w => by rw [neq_cov, ← hB]; rfl
      have HBB := hide hB
      clear hB
      obtain ⟨w2, hw2⟩ : ∃ W, wr.alloc (.cells #[.int .i64 c.p, .int .i64 c.lim, .int .i64 c.agg, .int .i64 c.ded, .int .i64 c.sh] 41) = W := ⟨_, rfl⟩
      have hbl2 : Blk w2 wr.heap.size 41 #[.int .i64 c.p, .int .i64 c.lim, .int .i64 c.agg, .int .i64 c.ded, .int .i64 c.sh] := by rw [← hw2]; exact Blk.new _ _ _
      have hb2 : Below wr.heap.size wr w2 := by rw [← hw2]; exact (Below.refl _ _).alloc (Nat.le_refl _) _
      have k0 := hbl2.cell 0
      have k1 := hbl2.cell 1
      have k2 := hbl2.cell 2
      have k3 := hbl2.cell 3
      have k4 := hbl2.cell 4
      simp at k0 k1 k2 k3 k4
      have d0 := kept hb2 d0
      have d1 := kept hb2 d1
      have d2 := kept hb2 d2
      have d3 := kept hb2 d3
      have d4 := kept hb2 d4
      have HW2 := hide hw2
      have HB2 := hide (chain HB.out hb2)
      clear hw2 hbl2 hb2
      go_wp2_with fail
      rw [show wr.alloc (.cells #[.int .i64 c.p, .int .i64 c.lim, .int .i64 c.agg, .int .i64 c.ded, .int .i64 c.sh] 41) = w2 from HW2.out]
      refine wp_region_class (fun W => Below w2.heap.size w2 W) (by kernel_rfl) (by kernel_rfl) (Below.refl _ _).drew ?_
      repeat (first
        | go_big_quiet_skip
        | (go_big_quiet_want
           first
             | (go_big_quiet_op
                go_big_quiet_on)
             | (refine quiet_yield (v := ?_) ?_ ?_
                rotate_left
                · intro W hW
                  have d0 := kept hW d0
                  have d1 := kept hW d1
                  have d2 := kept hW d2
                  have d3 := kept hW d3
                  have d4 := kept hW d4
                  have k0 := kept hW k0
                  have k1 := kept hW k1
                  have k2 := kept hW k2
                  have k3 := kept hW k3
                  have k4 := kept hW k4
                  clear hW
                  go_simp
                  try with_reducible rfl
                simp only [Act.put, List.setIfInBounds_toArray, List.set_cons_zero, List.set_cons_succ]
                go_big_quiet_on)))
      refine wpQuiet_nil ?_
      intro W hW
      clear hnq
      have HW := hide (chain HB2.out hW)
      clear hW c0 c1 c2 c3 c4 d0 d1 d2 d3 d4 k0 k1 k2 k3 k4
      cases B
      · have HF := hide (show alikeB l l2 = false by rw [HA.out, HD.out, HD2.out, alikeB, HBB.out]; rfl)
        go_wp2_with fail
        go_ret
        exact ⟨ret_bool HF.out.symm, HW.out⟩
      · have HF := hide (show alikeB l l2 = alikeB (l.drop (k + 1)) (l2.drop (k + 1)) by rw [HA.out, HD.out, HD2.out, alikeB, HBB.out]; rfl)
        go_wp2_with fail
        go_roundw
        case rel => exact ⟨k + 1, by omega, by go_num, HF.out, HW.out⟩
        case measure => simp [RowKit.intOf]; omega
    · obtain rfl : k = n := by omega
      have HT := hide (show alikeB l l2 = true by
        rw [HA.out, List.drop_eq_nil_of_le (by rw [HN.out]; exact Nat.le_refl _), List.drop_eq_nil_of_le (by rw [HN2.out]; exact Nat.le_refl _)]; rfl)
      clear hb
      go_wp2_with fail
      go_ret
      exact ⟨ret_bool HT.out.symm, HB.out⟩

/-- What holds in a span. -/
structure Sc where
  f : Int
  t : Int
  on : Bool
  rk : Int
  rv : Int
  ra : Int
  rz : Int
  A : Option Addr
  l : List Cv
  cap : Nat
  y : Int
def scC (x : Sc) : Array Value := #[.int .i64 x.f, .int .i64 x.t, .bool x.on, .int .i64 x.rk, .int .i64 x.rv, .int .i64 x.ra, .int .i64 x.rz, .slice x.A x.l.length x.cap, .int .i64 x.y]
def riskE (a b : Sc) : Bool := decide (a.rk = b.rk ∧ a.rv = b.rv ∧ a.ra = b.ra ∧ a.rz = b.rz)
def holdsB (a b : Sc) : Bool := a.on == b.on && (riskE a b && alikeB a.l b.l)
theorem alike_is {A A2 : Option Addr} {n n2 cap cap2 : Nat} {l l2 : List Cv} {B : Bool} (h : alikeB l l2 = B) (w : World) (hs : SV w 5 A n cap (l.map encCv)) (hs2 : SV w 5 A2 n2 cap2 (l2.map encCv)) :
    Calls Tryz.prog 124 #[.slice A n cap, .slice A2 n2 cap2] w fun e w' => e = .returned (.bool B) ∧ Below w.heap.size w w' := by
  subst h; exact alike_any A A2 n n2 cap cap2 l l2 w hs hs2
set_option maxRecDepth 100000 in
set_option maxHeartbeats 2000000 in
theorem holds_any (a b : Sc) (w : World) (hs : SV w 5 a.A a.l.length a.cap (a.l.map encCv)) (hs2 : SV w 5 b.A b.l.length b.cap (b.l.map encCv)) :
    Calls Tryz.prog 73 #[.agg #[.int .i64 a.f, .int .i64 a.t, .bool a.on, .int .i64 a.rk, .int .i64 a.rv, .int .i64 a.ra, .int .i64 a.rz, .slice a.A a.l.length a.cap, .int .i64 a.y], .agg #[.int .i64 b.f, .int .i64 b.t, .bool b.on, .int .i64 b.rk, .int .i64 b.rv, .int .i64 b.ra, .int .i64 b.rz, .slice b.A b.l.length b.cap, .int .i64 b.y]] w fun e w' => e = .returned (.bool (holdsB a b)) ∧ Below w.heap.size w w' := by
  have HB := hide (show holdsB a b = (a.on == b.on && (riskE a b && alikeB a.l b.l)) from rfl)
  obtain ⟨R, hR⟩ : ∃ R, riskE a b = R := ⟨_, rfl⟩
  obtain ⟨L, hL⟩ : ∃ L, alikeB a.l b.l = L := ⟨_, rfl⟩
  have heq : ∀ w, (binOp .eql 58 (.agg #[.int .i64 a.rk, .int .i64 a.rv, .int .i64 a.ra, .int .i64 a.rz]) (.agg #[.int .i64 b.rk, .int .i64 b.rv, .int .i64 b.ra, .int .i64 b.rz])).run Tryz.prog w = .ok (.bool R) w := fun w => by rw [eql_risk, ← hR]; rfl
  have HR := hide hR
  have HL := hide hL
  have HS := hide hs
  have HS2 := hide hs2
  clear hR hL hs hs2
  obtain ⟨V, hV⟩ : ∃ V, holdsB a b = V := ⟨_, rfl⟩
  rw [hV]
  have HV := hide hV
  clear hV
  have hcases : (a.on == b.on) = true ∨ (a.on == b.on) = false := by cases a.on == b.on <;> simp
  rcases hcases with hon | hon
  · cases R
    · have hF : V = false := by rw [← HV.out, HB.out, HR.out]; simp
      subst hF
      go_enter Tryz.func73, Tryz.ntmps73
      go_wp2_with fail
      go_ret
      exact ⟨rfl, ((Below.refl _ _).alloc (Nat.le_refl _) _).alloc (by simp) _⟩
    · have hF : V = L := by rw [← HV.out, HB.out, HR.out, hon, HL.out]; simp
      subst hF
      go_enter Tryz.func73, Tryz.ntmps73
      go_wp2_with fail
      have hb2 := (((Below.refl w.heap.size w).alloc (Nat.le_refl _) (.cells (scC a) 121)).alloc (by simp) (.cells (scC b) 121))
      refine (alike_is HL.out _ (HS.out.below hb2) (HS2.out.below hb2)).mono ?_
      rintro e w1 ⟨rfl, h1⟩
      have H1 := hide (chain hb2 h1)
      clear h1 hb2
      go_wp2_with fail
      go_ret
      exact ⟨rfl, H1.out⟩
  · have hF : V = false := by rw [← HV.out, HB.out, hon]; simp
    subst hF
    go_enter Tryz.func73, Tryz.ntmps73
    go_wp2_with fail
    go_ret
    exact ⟨rfl, ((Below.refl _ _).alloc (Nat.le_refl _) _).alloc (by simp) _⟩
end Go.Proofs.YtmfohnchnbgbaaaGreatDoor

/- Changes: what each kind asks, by the map of the checks. -/
namespace Go.Proofs.YtmfohnchnbgbaaaGreatDoor
open Go.RowKit Go.Maps

def elemR : Value → Option (DataW Unit × List MemPlace)
  | .func (.func f) a b => if a.isEmpty && b.isEmpty then some (.lit (.int .i64 (f : Int)), []) else none
  | .nilFunc => some (.lit (.int .i64 (-1)), [])
  | _ => none
theorem elemR_func (f : Nat) : elemR (.func (.func f) #[] #[]) = some (.lit (.int .i64 (f : Int)), []) := rfl
theorem elemR_inv {v : Value} {n : Nat} {ps : List MemPlace} (h : elemR v = some (.lit (.int .i64 (n : Int)), ps)) : v = .func (.func n) #[] #[] := by
  unfold elemR at h
  split at h
  · rename_i f a b
    split at h
    · rename_i h2
      simp only [Bool.and_eq_true, Array.isEmpty_iff] at h2
      simp at h
      obtain ⟨rfl, rfl⟩ := h2
      obtain ⟨h, -⟩ := h
      have : f = n := by first | exact h | exact Int.ofNat_inj.1 h | exact h.1
      rw [this]
    · cases h
  all_goals first | (cases h; done) | (simp at h; done) | (simp at h; omega)
theorem elemR_nil {v : Value} {ps : List MemPlace} (h : elemR v = some (.lit (.int .i64 (-1)), ps)) : v = .nilFunc := by
  unfold elemR at h
  split at h
  · split at h
    · first | (simp at h; done) | (simp at h; omega)
    · cases h
  · rfl
  · cases h
theorem law3 : Keyed Tryz.prog 3 := int_keyed Tryz.underlying3
theorem zeroFn (w : World) : (zeroValue 160).run Tryz.prog w = .ok .nilFunc w := by kernel_rfl
theorem key3 (k : Int) (h : ok64 k) : keyOf Tryz.prog 3 (.int .i64 k) = some (.int .i64 k) := keyOf_int_mk Tryz.underlying3 (by unfold ok64 at h; exact WalkArith.wf_i64 (by omega))
def checksD : DataW Unit := ((((DataW.map []).put (.int .i64 1) (.lit (.int .i64 (148 : Nat)))).put (.int .i64 2) (.lit (.int .i64 (149 : Nat)))).put (.int .i64 3) (.lit (.int .i64 (150 : Nat)))).put (.int .i64 4) (.lit (.int .i64 (151 : Nat)))
def Checks (w : World) (b : Nat) : Prop := w.ownsMap Tryz.prog 3 elemR b 4 checksD

set_option maxRecDepth 100000 in
theorem checks_any (w : World) : Calls Tryz.prog 112 #[] w fun e w' => e = .returned (.map (some w.heap.size)) ∧ Checks w' w.heap.size ∧ Below w.heap.size w w' := by
  have hmm := @run_makeMap Tryz.prog
  have o0 := World.ownsMap_made w Tryz.prog 3 elemR
  obtain ⟨w1, e1, o1, g1⟩ := o0.update law3 Tryz.underlying220 (by unfold maxLen; omega) (key3 1 (by unfold ok64; omega)) (elemR_func 148)
  obtain ⟨w2, e2, o2, g2⟩ := o1.update law3 Tryz.underlying220 (by unfold maxLen; omega) (key3 2 (by unfold ok64; omega)) (elemR_func 149)
  obtain ⟨w3, e3, o3, g3⟩ := o2.update law3 Tryz.underlying220 (by unfold maxLen; omega) (key3 3 (by unfold ok64; omega)) (elemR_func 150)
  obtain ⟨w4, e4, o4, g4⟩ := o3.update law3 Tryz.underlying220 (by unfold maxLen; omega) (key3 4 (by unfold ok64; omega)) (elemR_func 151)
  have H := hide (show Checks w4 w.heap.size from o4)
  have hb0 := (Below.refl w.heap.size w).alloc (Nat.le_refl _) (.map #[] 0)
  have hs := hb0.size
  have hr : ∀ k, some w.heap.size = some k → w.heap.size ≤ k := fun k h => by cases h; exact Nat.le_refl _
  have hb1 := hb0.grown g1 hs hr
  have hb2 := hb1.grown g2 hb1.size hr
  have hb3 := hb2.grown g3 hb2.size hr
  have HB := hide (hb3.grown g4 hb3.size hr)
  clear o0 o1 o2 o3 o4 g1 g2 g3 g4 hb0 hb1 hb2 hb3 hs hr
  go_enter Tryz.func112, Tryz.ntmps112
  go_wp2_with fail
  go_ret
  exact ⟨rfl, H.out, HB.out⟩

/-- A change. -/
structure Ch where
  b : Int
  d : Int
  k : Int
  rk : Int
  rv : Int
  ra : Int
  rz : Int
  A : Option Addr
  l : List Cv
  cap : Nat
  way : Int
def chC (c : Ch) : Array Value := #[.int .i64 c.b, .int .i64 c.d, .int .i64 c.k, .int .i64 c.rk, .int .i64 c.rv, .int .i64 c.ra, .int .i64 c.rz, .slice c.A c.l.length c.cap, .int .i64 c.way]
def noRisk (c : Ch) : Bool := decide (c.rk = 0 ∧ c.rv = 0 ∧ c.ra = 0 ∧ c.rz = 0)
def kind1 (c : Ch) : Bool := riskB c.rk c.rv c.ra c.rz && decide (c.l.length = 0 ∧ c.way = 0)
def kind2 (c : Ch) : Bool := coversB c.l && noRisk c && decide (c.way = 0)
def kind3 (c : Ch) : Bool := decide ((c.way = 0 ∨ c.way = 1) ∧ c.l.length = 0) && noRisk c
def kind4 (c : Ch) : Bool := decide (c.way = 0 ∧ c.l.length = 0) && noRisk c
section
variable {c : Ch} {w : World}
set_option maxHeartbeats 1000000 in
theorem ck4 :
    Calls Tryz.prog 151 #[.agg #[.int .i64 c.b, .int .i64 c.d, .int .i64 c.k, .int .i64 c.rk, .int .i64 c.rv, .int .i64 c.ra, .int .i64 c.rz, .slice c.A c.l.length c.cap, .int .i64 c.way]] w fun e w' => e = .returned (.bool (kind4 c)) ∧ Below w.heap.size w w' := by
  obtain ⟨b, d, k, rk, rv, ra, rz, A, l, cap, way⟩ := c
  obtain ⟨n, hn⟩ : ∃ n, l.length = n := ⟨_, rfl⟩
  simp only [kind4, noRisk, hn]
  clear hn
  go_enter Tryz.func151, Tryz.ntmps151
  go_wp2_with fail
  all_goals
    go_ret
    exact ⟨ret_bool (by rw [Bool.eq_iff_iff]; simp_all), (Below.refl _ _).alloc (Nat.le_refl _) _⟩
set_option maxHeartbeats 1000000 in
theorem ck3 :
    Calls Tryz.prog 150 #[.agg #[.int .i64 c.b, .int .i64 c.d, .int .i64 c.k, .int .i64 c.rk, .int .i64 c.rv, .int .i64 c.ra, .int .i64 c.rz, .slice c.A c.l.length c.cap, .int .i64 c.way]] w fun e w' => e = .returned (.bool (kind3 c)) ∧ Below w.heap.size w w' := by
  obtain ⟨b, d, k, rk, rv, ra, rz, A, l, cap, way⟩ := c
  obtain ⟨n, hn⟩ : ∃ n, l.length = n := ⟨_, rfl⟩
  simp only [kind3, noRisk, hn]
  clear hn
  go_enter Tryz.func150, Tryz.ntmps150
  go_wp2_with fail
  all_goals
    go_ret
    exact ⟨ret_bool (by rw [Bool.eq_iff_iff]; simp_all), (Below.refl _ _).alloc (Nat.le_refl _) _⟩
set_option maxHeartbeats 1000000 in
theorem ck1 :
    Calls Tryz.prog 148 #[.agg #[.int .i64 c.b, .int .i64 c.d, .int .i64 c.k, .int .i64 c.rk, .int .i64 c.rv, .int .i64 c.ra, .int .i64 c.rz, .slice c.A c.l.length c.cap, .int .i64 c.way]] w fun e w' => e = .returned (.bool (kind1 c)) ∧ Below w.heap.size w w' := by
  obtain ⟨b, d, k, rk, rv, ra, rz, A, l, cap, way⟩ := c
  obtain ⟨n, hn⟩ : ∃ n, l.length = n := ⟨_, rfl⟩
  obtain ⟨B, hB⟩ : ∃ B, riskB rk rv ra rz = B := ⟨_, rfl⟩
  have HC := hide (fun W => risk_any rk rv ra rz W)
  simp only [kind1, hn]
  rw [hB] at HC ⊢
  clear hn hB
  go_enter Tryz.func148, Tryz.ntmps148
  go_wp2_with fail
  refine (HC.out _).mono ?_
  rintro e w1 ⟨rfl, b1⟩
  have z7 := kept b1 (b := w.heap.size) (o := 7) (u := .slice A n cap) (by simp)
  have z8 := kept b1 (b := w.heap.size) (o := 8) (u := .int .i64 way) (by simp)
  have H1 := hide (chain1 b1)
  clear b1
  cases B
  all_goals go_wp2_with fail
  all_goals
    go_ret
    exact ⟨ret_bool (by rw [Bool.eq_iff_iff]; simp_all), H1.out⟩
set_option maxHeartbeats 1000000 in
theorem ck2 (hs : SV w 5 c.A c.l.length c.cap (c.l.map encCv)) (ho : ∀ x ∈ c.l, okCv x) :
    Calls Tryz.prog 149 #[.agg #[.int .i64 c.b, .int .i64 c.d, .int .i64 c.k, .int .i64 c.rk, .int .i64 c.rv, .int .i64 c.ra, .int .i64 c.rz, .slice c.A c.l.length c.cap, .int .i64 c.way]] w fun e w' => e = .returned (.bool (kind2 c)) ∧ Below w.heap.size w w' := by
  obtain ⟨b, d, k, rk, rv, ra, rz, A, l, cap, way⟩ := c
  obtain ⟨B, hB⟩ : ∃ B, coversB l = B := ⟨_, rfl⟩
  have HC := hide (fun W (hW : Below w.heap.size w W) => covers_any A cap l.length l W (hs.below hW) ho)
  simp only [kind2, noRisk]
  rw [hB] at HC ⊢
  clear hB hs ho
  obtain ⟨n, hn⟩ : ∃ n, l.length = n := ⟨_, rfl⟩
  simp only [hn] at HC ⊢
  clear hn
  go_enter Tryz.func149, Tryz.ntmps149
  go_wp2_with fail
  refine (HC.out _ ((Below.refl _ _).alloc (Nat.le_refl _) _)).mono ?_
  rintro e w1 ⟨rfl, b1⟩
  have z3 := kept b1 (b := w.heap.size) (o := 3) (u := .int .i64 rk) (by simp)
  have z4 := kept b1 (b := w.heap.size) (o := 4) (u := .int .i64 rv) (by simp)
  have z5 := kept b1 (b := w.heap.size) (o := 5) (u := .int .i64 ra) (by simp)
  have z6 := kept b1 (b := w.heap.size) (o := 6) (u := .int .i64 rz) (by simp)
  have z8 := kept b1 (b := w.heap.size) (o := 8) (u := .int .i64 way) (by simp)
  have H1 := hide (chain1 b1)
  clear b1
  cases B
  all_goals go_wp2_with fail
  all_goals
    go_ret
    exact ⟨ret_bool (by rw [Bool.eq_iff_iff]; simp_all), H1.out⟩
theorem day_any (n : Int) (w : World) : Calls Tryz.prog 113 #[.int .i64 n] w fun e w' => e = .returned (.bool (decide (1 ≤ n ∧ n ≤ 292194))) ∧ w = w' := by
  go_enter Tryz.func113, Tryz.ntmps113
  go_wp2
  all_goals
    go_ret
    exact ⟨ret_bool (by rw [Bool.eq_iff_iff]; simp; try omega), rfl⟩
theorem day_is {n : Int} {b : Bool} (h : decide (1 ≤ n ∧ n ≤ 292194) = b) (w : World) : Calls Tryz.prog 113 #[.int .i64 n] w fun e w' => e = .returned (.bool b) ∧ w = w' := by
  subst h; exact day_any n w
end
def kindB (c : Ch) : Bool := if c.k = 1 then kind1 c else if c.k = 2 then kind2 c else if c.k = 3 then kind3 c else if c.k = 4 then kind4 c else false
def changeB (c : Ch) : Bool := decide (1 ≤ c.b ∧ c.b ≤ 292194) && decide (1 ≤ c.d ∧ c.d ≤ 292194) && kindB c

/-- What the map has at a kind. -/
def fnOf (k : Int) : Value := if k = 1 then .func (.func 148) #[] #[] else if k = 2 then .func (.func 149) #[] #[] else if k = 3 then .func (.func 150) #[] #[] else if k = 4 then .func (.func 151) #[] #[] else .nilFunc
def isKind (k : Int) : Bool := decide (1 ≤ k ∧ k ≤ 4)
theorem checks_look {W : World} {b : Nat} (h : Checks W b) (k : Int) (hk : ok64 k) : (Instr.lookup 220 (.map (some b)) (.int .i64 k) true).run Tryz.prog W = .ok (.tuple #[fnOf k, .bool (isKind k)]) W := by
  obtain ⟨v, ps, hrun, hv⟩ := World.ownsMap.look_ok h law3 Tryz.underlying220 (zeroFn W) (zd := .lit (.int .i64 (-1))) (zp := []) rfl (key3 k hk)
  have hD : checksD = .map [(.int .i64 1, .lit (.int .i64 (148 : Nat))), (.int .i64 2, .lit (.int .i64 (149 : Nat))), (.int .i64 3, .lit (.int .i64 (150 : Nat))), (.int .i64 4, .lit (.int .i64 (151 : Nat)))] := by rfl
  rw [hD] at hrun hv
  simp only [DataW.atKey, Maps.has, List.find?, List.any, Lit.sameKey] at hrun hv
  rcases (show k = 1 ∨ k = 2 ∨ k = 3 ∨ k = 4 ∨ (k < 1 ∨ 4 < k) by omega) with rfl | rfl | rfl | rfl | h5
  · simp at hv
    obtain rfl := elemR_inv (n := 148) hv
    rw [hrun]; simp [fnOf, isKind]
  · simp at hv
    obtain rfl := elemR_inv (n := 149) hv
    rw [hrun]; simp [fnOf, isKind]
  · simp at hv
    obtain rfl := elemR_inv (n := 150) hv
    rw [hrun]; simp [fnOf, isKind]
  · simp at hv
    obtain rfl := elemR_inv (n := 151) hv
    rw [hrun]; simp [fnOf, isKind]
  · have n1 : ¬ 1 = k := by omega
    have n2 : ¬ 2 = k := by omega
    have n3 : ¬ 3 = k := by omega
    have n4 : ¬ 4 = k := by omega
    simp [n1, n2, n3, n4] at hv hrun
    obtain rfl := elemR_nil hv
    have m : isKind k = false := by simp [isKind]; omega
    rw [hrun, m, fnOf, if_neg (by omega), if_neg (by omega), if_neg (by omega), if_neg (by omega)]
set_option maxRecDepth 100000 in
set_option maxHeartbeats 2000000 in
theorem change_any (c : Ch) (w : World) (hc : ok64 c.k) (hs : SV w 5 c.A c.l.length c.cap (c.l.map encCv)) (ho : ∀ x ∈ c.l, okCv x) :
    Calls Tryz.prog 67 #[.agg #[.int .i64 c.b, .int .i64 c.d, .int .i64 c.k, .int .i64 c.rk, .int .i64 c.rv, .int .i64 c.ra, .int .i64 c.rz, .slice c.A c.l.length c.cap, .int .i64 c.way]] w fun e w' => e = .returned (.bool (changeB c)) ∧ Below w.heap.size w w' := by
  obtain ⟨bx, hbx⟩ : ∃ W, w.alloc (.cells (chC c) 77) = W := ⟨_, rfl⟩
  have hB0 : Blk bx w.heap.size 77 (chC c) := by rw [← hbx]; exact Blk.new _ _ _
  have hb0 : Below w.heap.size w bx := by rw [← hbx]; exact (Below.refl _ _).alloc (Nat.le_refl _) _
  go_enter Tryz.func67, Tryz.ntmps67
  go_wp2_with fail
  have hbx' : w.alloc (.cells #[.int .i64 c.b, .int .i64 c.d, .int .i64 c.k, .int .i64 c.rk, .int .i64 c.rv, .int .i64 c.ra, .int .i64 c.rz, .slice c.A c.l.length c.cap, .int .i64 c.way] 77) = bx := hbx
  rw [hbx']
  have c2 : bx.cell? ⟨w.heap.size, 2, none⟩ = some (.int .i64 c.k) := hB0.cell 2
  have HK := hide hc
  have HB0 := hide hB0
  have HBE := hide hb0
  have hlt := hB0.lt
  have HS := hide (hs.below hb0)
  have HO := hide ho
  clear hbx hbx' hB0 hb0 hc hs ho
  go_region_held3 (fun w' => w'.cell? ⟨w.heap.size, 2, none⟩ = some (.int .i64 c.k)) (first | with_reducible exact c2 | go_keep)
    ((with_reducible refine (checks_any _).mono ?_
      rintro e w4 ⟨rfl, hck, hb4⟩
      have hl : (Instr.lookup 220 (.map (some bx.heap.size)) (.int .i64 c.k) true).run Tryz.prog w4 = .ok (.tuple #[fnOf c.k, .bool (isKind c.k)]) w4 := checks_look hck c.k HK.out
      have c2 := kept hb4 c2
      have HB4 := hide hb4
      have HC4 := hide hck
      clear hck hb4))
  have hbx4 := chain HBE.out (show Below bx.heap.size bx w4 from bel_undrew HB4.out)
  have hB4 : Blk w4 w.heap.size 77 (chC c) := HB0.out.drew.below HB4.out hlt
  have HBX := hide hbx4
  have z0 : w4.cell? ⟨w.heap.size, 0, none⟩ = some (.int .i64 c.b) := hB4.cell 0
  have z1 : w4.cell? ⟨w.heap.size, 1, none⟩ = some (.int .i64 c.d) := hB4.cell 1
  have z3 : w4.cell? ⟨w.heap.size, 3, none⟩ = some (.int .i64 c.rk) := hB4.cell 3
  have z4 : w4.cell? ⟨w.heap.size, 4, none⟩ = some (.int .i64 c.rv) := hB4.cell 4
  have z5 : w4.cell? ⟨w.heap.size, 5, none⟩ = some (.int .i64 c.ra) := hB4.cell 5
  have z6 : w4.cell? ⟨w.heap.size, 6, none⟩ = some (.int .i64 c.rz) := hB4.cell 6
  have z7 : w4.cell? ⟨w.heap.size, 7, none⟩ = some (.slice c.A c.l.length c.cap) := hB4.cell 7
  have z8 : w4.cell? ⟨w.heap.size, 8, none⟩ = some (.int .i64 c.way) := hB4.cell 8
  have HS4 := hide (HS.out.below (bel_undrew HB4.out))
  clear hB4 hbx4 HC4 hl
  obtain ⟨D1, hD1⟩ : ∃ D, decide (1 ≤ c.b ∧ c.b ≤ 292194) = D := ⟨_, rfl⟩
  obtain ⟨D2, hD2⟩ : ∃ D, decide (1 ≤ c.d ∧ c.d ≤ 292194) = D := ⟨_, rfl⟩
  obtain ⟨K, hK⟩ : ∃ K, kindB c = K := ⟨_, rfl⟩
  have HR := hide (show changeB c = (D1 && D2 && K) by rw [changeB, hD1, hD2, hK])
  have HD1 := hide (fun W => day_is hD1 W)
  have HD2 := hide (fun W => day_is hD2 W)
  have hcases : (isKind c.k = false ∧ K = false) ∨ (isKind c.k = true ∧ ∃ f, fnOf c.k = .func (.func f) #[] #[] ∧ (∀ args w, (callFunc f args).run Tryz.prog w = .ok (.enter f args) w) ∧ Calls Tryz.prog f #[.agg #[.int .i64 c.b, .int .i64 c.d, .int .i64 c.k, .int .i64 c.rk, .int .i64 c.rv, .int .i64 c.ra, .int .i64 c.rz, .slice c.A c.l.length c.cap, .int .i64 c.way]] w4 fun e w' => e = .returned (.bool K) ∧ Below w4.heap.size w4 w') := by
    rw [← hK]
    rcases (show c.k = 1 ∨ c.k = 2 ∨ c.k = 3 ∨ c.k = 4 ∨ (c.k < 1 ∨ 4 < c.k) by omega) with h | h | h | h | h
    · exact .inr ⟨by simp [isKind, h], 148, by simp [fnOf, h], Go.Proofs.enters_of Tryz.func148 (by kernel_rfl) rfl, by rw [show kindB c = kind1 c by simp [kindB, h]]; exact ck1⟩
    · exact .inr ⟨by simp [isKind, h], 149, by simp [fnOf, h], Go.Proofs.enters_of Tryz.func149 (by kernel_rfl) rfl, by rw [show kindB c = kind2 c by simp [kindB, h]]; exact ck2 HS4.out HO.out⟩
    · exact .inr ⟨by simp [isKind, h], 150, by simp [fnOf, h], Go.Proofs.enters_of Tryz.func150 (by kernel_rfl) rfl, by rw [show kindB c = kind3 c by simp [kindB, h]]; exact ck3⟩
    · exact .inr ⟨by simp [isKind, h], 151, by simp [fnOf, h], Go.Proofs.enters_of Tryz.func151 (by kernel_rfl) rfl, by rw [show kindB c = kind4 c by simp [kindB, h]]; exact ck4⟩
    · exact .inl ⟨by simp [isKind]; omega, by rw [kindB, if_neg (by omega), if_neg (by omega), if_neg (by omega), if_neg (by omega)]⟩
  clear hD1 hD2 hK
  rcases hcases with ⟨hi, rfl⟩ | ⟨hi, f, hf, eg, hc⟩
  · rw [hi]
    go_wp2_with fail
    go_ret
    exact ⟨ret_bool (by rw [HR.out]; simp), HBX.out⟩
  · have HC := hide hc
    rw [hi, hf]
    clear hi hf hc
    cases D1
    · go_wp2_with fail
      refine (HD1.out _).mono ?_
      rintro e w' ⟨rfl, rfl⟩
      go_wp2_with fail
      go_ret
      exact ⟨ret_bool (by rw [HR.out]; simp), HBX.out⟩
    cases D2
    · go_wp2_with fail
      refine (HD1.out _).mono ?_
      rintro e w' ⟨rfl, rfl⟩
      go_wp2_with fail
      refine (HD2.out _).mono ?_
      rintro e w' ⟨rfl, rfl⟩
      go_wp2_with fail
      go_ret
      exact ⟨ret_bool (by rw [HR.out]; simp), HBX.out⟩
    · go_wp2_with fail
      refine (HD1.out _).mono ?_
      rintro e w' ⟨rfl, rfl⟩
      go_wp2_with fail
      refine (HD2.out _).mono ?_
      rintro e w' ⟨rfl, rfl⟩
      go_wp2_with fail
      refine HC.out.mono ?_
      rintro e w5 ⟨rfl, hb5⟩
      have H5 := hide (chain HBX.out hb5)
      clear hb5
      go_wp2_with fail
      go_ret
      exact ⟨ret_bool (by rw [HR.out]; simp), H5.out⟩
end Go.Proofs.YtmfohnchnbgbaaaGreatDoor
