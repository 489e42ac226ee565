/- Part 12 of the proof. -/
import Derived.Maps.OwnSet
import Derived.Deep.RegionHeld3
import Derived.Test.YtmfohnchnbgbaaaGreatKnM05
/- Changes: what each kind asks, by the map of the checks. -/
namespace Go.Proofs.YtmfohnchnbgbaaaGreat
open Go.RowKit Go.Maps

def elemR : Value → Option (DataW Unit × List MemPlace)
  | .func (.func f) a b => if a.isEmpty && b.isEmpty then some (.lit (.int .i64 (f : Int)), []) else none
  | .nilFunc => some (.lit (.int .i64 (-1)), [])
  | _ => none
theorem elemR_func (f : Nat) : elemR (.func (.func f) #[] #[]) = some (.lit (.int .i64 (f : Int)), []) := rfl
theorem elemR_inv {v : Value} {n : Nat} {ps : List MemPlace} (h : elemR v = some (.lit (.int .i64 (n : Int)), ps)) : v = .func (.func n) #[] #[] := by
  unfold elemR at h
  split at h
  · rename_i f a b
    split at h
    · rename_i h2
      simp only [Bool.and_eq_true, Array.isEmpty_iff] at h2
      simp at h
      obtain ⟨rfl, rfl⟩ := h2
      obtain ⟨h, -⟩ := h
      have : f = n := by first | exact h | exact Int.ofNat_inj.1 h | exact h.1
      rw [this]
    · cases h
  all_goals first | (cases h; done) | (simp at h; done) | (simp at h; omega)
theorem elemR_nil {v : Value} {ps : List MemPlace} (h : elemR v = some (.lit (.int .i64 (-1)), ps)) : v = .nilFunc := by
  unfold elemR at h
  split at h
  · split at h
    · first | (simp at h; done) | (simp at h; omega)
    · cases h
  · rfl
  · cases h
theorem law3 : Keyed Tryz.prog 3 := int_keyed Tryz.underlying3
theorem zeroFn (w : World) : (zeroValue 175).run Tryz.prog w = .ok .nilFunc w := by kernel_rfl
theorem key3 (k : Int) (h : ok64 k) : keyOf Tryz.prog 3 (.int .i64 k) = some (.int .i64 k) := keyOf_int_mk Tryz.underlying3 (by unfold ok64 at h; exact WalkArith.wf_i64 (by omega))
def checksD : DataW Unit := ((((DataW.map []).put (.int .i64 1) (.lit (.int .i64 (184 : Nat)))).put (.int .i64 2) (.lit (.int .i64 (185 : Nat)))).put (.int .i64 3) (.lit (.int .i64 (186 : Nat)))).put (.int .i64 4) (.lit (.int .i64 (187 : Nat)))
def Checks (w : World) (b : Nat) : Prop := w.ownsMap Tryz.prog 3 elemR b 4 checksD

set_option maxRecDepth 100000 in
theorem checks_any (w : World) : Calls Tryz.prog 139 #[] w fun e w' => e = .returned (.map (some w.heap.size)) ∧ Checks w' w.heap.size ∧ Below w.heap.size w w' := by
  have hmm := @run_makeMap Tryz.prog
  have o0 := World.ownsMap_made w Tryz.prog 3 elemR
  obtain ⟨w1, e1, o1, g1⟩ := o0.update law3 Tryz.underlying245 (by unfold maxLen; omega) (key3 1 (by unfold ok64; omega)) (elemR_func 184)
  obtain ⟨w2, e2, o2, g2⟩ := o1.update law3 Tryz.underlying245 (by unfold maxLen; omega) (key3 2 (by unfold ok64; omega)) (elemR_func 185)
  obtain ⟨w3, e3, o3, g3⟩ := o2.update law3 Tryz.underlying245 (by unfold maxLen; omega) (key3 3 (by unfold ok64; omega)) (elemR_func 186)
  obtain ⟨w4, e4, o4, g4⟩ := o3.update law3 Tryz.underlying245 (by unfold maxLen; omega) (key3 4 (by unfold ok64; omega)) (elemR_func 187)
  have H := hide (show Checks w4 w.heap.size from o4)
  have hb0 := (Below.refl w.heap.size w).alloc (Nat.le_refl _) (.map #[] 0)
  have hs := hb0.size
  have hr : ∀ k, some w.heap.size = some k → w.heap.size ≤ k := fun k h => by cases h; exact Nat.le_refl _
  have hb1 := hb0.grown g1 hs hr
  have hb2 := hb1.grown g2 hb1.size hr
  have hb3 := hb2.grown g3 hb2.size hr
  have HB := hide (hb3.grown g4 hb3.size hr)
  clear o0 o1 o2 o3 o4 g1 g2 g3 g4 hb0 hb1 hb2 hb3 hs hr
  go_enter Tryz.func139, Tryz.ntmps139
  go_wp2_with fail
  go_ret
  exact ⟨rfl, H.out, HB.out⟩

/-- A change. -/
structure Ch where
  b : Int
  d : Int
  k : Int
  rk : Int
  rv : Int
  ra : Int
  rz : Int
  A : Option Addr
  l : List Cv
  cap : Nat
  way : Int
def chC (c : Ch) : Array Value := #[.int .i64 c.b, .int .i64 c.d, .int .i64 c.k, .int .i64 c.rk, .int .i64 c.rv, .int .i64 c.ra, .int .i64 c.rz, .slice c.A c.l.length c.cap, .int .i64 c.way]
def noRisk (c : Ch) : Bool := decide (c.rk = 0 ∧ c.rv = 0 ∧ c.ra = 0 ∧ c.rz = 0)
def kind1 (c : Ch) : Bool := riskB c.rk c.rv c.ra c.rz && decide (c.l.length = 0 ∧ c.way = 0)
def kind2 (c : Ch) : Bool := coversB c.l && noRisk c && decide (c.way = 0)
def kind3 (c : Ch) : Bool := decide ((c.way = 0 ∨ c.way = 1) ∧ c.l.length = 0) && noRisk c
def kind4 (c : Ch) : Bool := decide (c.way = 0 ∧ c.l.length = 0) && noRisk c
section
variable {c : Ch} {w : World}
set_option maxHeartbeats 1000000 in
theorem ck4 :
    Calls Tryz.prog 187 #[.agg #[.int .i64 c.b, .int .i64 c.d, .int .i64 c.k, .int .i64 c.rk, .int .i64 c.rv, .int .i64 c.ra, .int .i64 c.rz, .slice c.A c.l.length c.cap, .int .i64 c.way]] w fun e w' => e = .returned (.bool (kind4 c)) ∧ Below w.heap.size w w' := by
  obtain ⟨b, d, k, rk, rv, ra, rz, A, l, cap, way⟩ := c
  obtain ⟨n, hn⟩ : ∃ n, l.length = n := ⟨_, rfl⟩
  simp only [kind4, noRisk, hn]
  clear hn
  go_enter Tryz.func187, Tryz.ntmps187
  go_wp2_with fail
  all_goals
    go_ret
    exact ⟨ret_bool (by rw [Bool.eq_iff_iff]; simp_all), (Below.refl _ _).alloc (Nat.le_refl _) _⟩
set_option maxHeartbeats 1000000 in
theorem ck3 :
    Calls Tryz.prog 186 #[.agg #[.int .i64 c.b, .int .i64 c.d, .int .i64 c.k, .int .i64 c.rk, .int .i64 c.rv, .int .i64 c.ra, .int .i64 c.rz, .slice c.A c.l.length c.cap, .int .i64 c.way]] w fun e w' => e = .returned (.bool (kind3 c)) ∧ Below w.heap.size w w' := by
  obtain ⟨b, d, k, rk, rv, ra, rz, A, l, cap, way⟩ := c
  obtain ⟨n, hn⟩ : ∃ n, l.length = n := ⟨_, rfl⟩
  simp only [kind3, noRisk, hn]
  clear hn
  go_enter Tryz.func186, Tryz.ntmps186
  go_wp2_with fail
  all_goals
    go_ret
    exact ⟨ret_bool (by rw [Bool.eq_iff_iff]; simp_all), (Below.refl _ _).alloc (Nat.le_refl _) _⟩
set_option maxHeartbeats 1000000 in
theorem ck1 :
    Calls Tryz.prog 184 #[.agg #[.int .i64 c.b, .int .i64 c.d, .int .i64 c.k, .int .i64 c.rk, .int .i64 c.rv, .int .i64 c.ra, .int .i64 c.rz, .slice c.A c.l.length c.cap, .int .i64 c.way]] w fun e w' => e = .returned (.bool (kind1 c)) ∧ Below w.heap.size w w' := by
  obtain ⟨b, d, k, rk, rv, ra, rz, A, l, cap, way⟩ := c
  obtain ⟨n, hn⟩ : ∃ n, l.length = n := ⟨_, rfl⟩
  obtain ⟨B, hB⟩ : ∃ B, riskB rk rv ra rz = B := ⟨_, rfl⟩
  have HC := hide (fun W => risk_any rk rv ra rz W)
  simp only [kind1, hn]
  rw [hB] at HC ⊢
  clear hn hB
  go_enter Tryz.func184, Tryz.ntmps184
  go_wp2_with fail
  refine (HC.out _).mono ?_
  rintro e w1 ⟨rfl, b1⟩
  have z7 := kept b1 (b := w.heap.size) (o := 7) (u := .slice A n cap) (by simp)
  have z8 := kept b1 (b := w.heap.size) (o := 8) (u := .int .i64 way) (by simp)
  have H1 := hide (chain1 b1)
  clear b1
  cases B
  all_goals go_wp2_with fail
  all_goals
    go_ret
    exact ⟨ret_bool (by rw [Bool.eq_iff_iff]; simp_all), H1.out⟩
set_option maxHeartbeats 1000000 in
theorem ck2 (hs : SV w 5 c.A c.l.length c.cap (c.l.map encCv)) (ho : ∀ x ∈ c.l, okCv x) :
    Calls Tryz.prog 185 #[.agg #[.int .i64 c.b, .int .i64 c.d, .int .i64 c.k, .int .i64 c.rk, .int .i64 c.rv, .int .i64 c.ra, .int .i64 c.rz, .slice c.A c.l.length c.cap, .int .i64 c.way]] w fun e w' => e = .returned (.bool (kind2 c)) ∧ Below w.heap.size w w' := by
  obtain ⟨b, d, k, rk, rv, ra, rz, A, l, cap, way⟩ := c
  obtain ⟨B, hB⟩ : ∃ B, coversB l = B := ⟨_, rfl⟩
  have HC := hide (fun W (hW : Below w.heap.size w W) => covers_any A cap l.length l W (hs.below hW) ho)
  simp only [kind2, noRisk]
  rw [hB] at HC ⊢
  clear hB hs ho
  obtain ⟨n, hn⟩ : ∃ n, l.length = n := ⟨_, rfl⟩
  simp only [hn] at HC ⊢
  clear hn
  go_enter Tryz.func185, Tryz.ntmps185
  go_wp2_with fail
  refine (HC.out _ ((Below.refl _ _).alloc (Nat.le_refl _) _)).mono ?_
  rintro e w1 ⟨rfl, b1⟩
  have z3 := kept b1 (b := w.heap.size) (o := 3) (u := .int .i64 rk) (by simp)
  have z4 := kept b1 (b := w.heap.size) (o := 4) (u := .int .i64 rv) (by simp)
  have z5 := kept b1 (b := w.heap.size) (o := 5) (u := .int .i64 ra) (by simp)
  have z6 := kept b1 (b := w.heap.size) (o := 6) (u := .int .i64 rz) (by simp)
  have z8 := kept b1 (b := w.heap.size) (o := 8) (u := .int .i64 way) (by simp)
  have H1 := hide (chain1 b1)
  clear b1
  cases B
  all_goals go_wp2_with fail
  all_goals
    go_ret
    exact ⟨ret_bool (by rw [Bool.eq_iff_iff]; simp_all), H1.out⟩
theorem day_any (n : Int) (w : World) : Calls Tryz.prog 140 #[.int .i64 n] w fun e w' => e = .returned (.bool (decide (1 ≤ n ∧ n ≤ 292194))) ∧ w = w' := by
  go_enter Tryz.func140, Tryz.ntmps140
  go_wp2
  all_goals
    go_ret
    exact ⟨ret_bool (by rw [Bool.eq_iff_iff]; simp; try omega), rfl⟩
theorem day_is {n : Int} {b : Bool} (h : decide (1 ≤ n ∧ n ≤ 292194) = b) (w : World) : Calls Tryz.prog 140 #[.int .i64 n] w fun e w' => e = .returned (.bool b) ∧ w = w' := by
  subst h; exact day_any n w
end
def kindB (c : Ch) : Bool := if c.k = 1 then kind1 c else if c.k = 2 then kind2 c else if c.k = 3 then kind3 c else if c.k = 4 then kind4 c else false
def changeB (c : Ch) : Bool := decide (1 ≤ c.b ∧ c.b ≤ 292194) && decide (1 ≤ c.d ∧ c.d ≤ 292194) && kindB c

/-- What the map has at a kind. -/
def fnOf (k : Int) : Value := if k = 1 then .func (.func 184) #[] #[] else if k = 2 then .func (.func 185) #[] #[] else if k = 3 then .func (.func 186) #[] #[] else if k = 4 then .func (.func 187) #[] #[] else .nilFunc
def isKind (k : Int) : Bool := decide (1 ≤ k ∧ k ≤ 4)
theorem checks_look {W : World} {b : Nat} (h : Checks W b) (k : Int) (hk : ok64 k) : (Instr.lookup 245 (.map (some b)) (.int .i64 k) true).run Tryz.prog W = .ok (.tuple #[fnOf k, .bool (isKind k)]) W := by
  obtain ⟨v, ps, hrun, hv⟩ := World.ownsMap.look_ok h law3 Tryz.underlying245 (zeroFn W) (zd := .lit (.int .i64 (-1))) (zp := []) rfl (key3 k hk)
  have hD : checksD = .map [(.int .i64 1, .lit (.int .i64 (184 : Nat))), (.int .i64 2, .lit (.int .i64 (185 : Nat))), (.int .i64 3, .lit (.int .i64 (186 : Nat))), (.int .i64 4, .lit (.int .i64 (187 : Nat)))] := by rfl
  rw [hD] at hrun hv
  simp only [DataW.atKey, Maps.has, List.find?, List.any, Lit.sameKey] at hrun hv
  rcases (show k = 1 ∨ k = 2 ∨ k = 3 ∨ k = 4 ∨ (k < 1 ∨ 4 < k) by omega) with rfl | rfl | rfl | rfl | h5
  · simp at hv
    obtain rfl := elemR_inv (n := 184) hv
    rw [hrun]; simp [fnOf, isKind]
  · simp at hv
    obtain rfl := elemR_inv (n := 185) hv
    rw [hrun]; simp [fnOf, isKind]
  · simp at hv
    obtain rfl := elemR_inv (n := 186) hv
    rw [hrun]; simp [fnOf, isKind]
  · simp at hv
    obtain rfl := elemR_inv (n := 187) hv
    rw [hrun]; simp [fnOf, isKind]
  · have n1 : ¬ 1 = k := by omega
    have n2 : ¬ 2 = k := by omega
    have n3 : ¬ 3 = k := by omega
    have n4 : ¬ 4 = k := by omega
    simp [n1, n2, n3, n4] at hv hrun
    obtain rfl := elemR_nil hv
    have m : isKind k = false := by simp [isKind]; omega
    rw [hrun, m, fnOf, if_neg (by omega), if_neg (by omega), if_neg (by omega), if_neg (by omega)]
set_option maxRecDepth 100000 in
set_option maxHeartbeats 2000000 in
theorem change_any (c : Ch) (w : World) (hc : ok64 c.k) (hs : SV w 5 c.A c.l.length c.cap (c.l.map encCv)) (ho : ∀ x ∈ c.l, okCv x) :
    Calls Tryz.prog 76 #[.agg #[.int .i64 c.b, .int .i64 c.d, .int .i64 c.k, .int .i64 c.rk, .int .i64 c.rv, .int .i64 c.ra, .int .i64 c.rz, .slice c.A c.l.length c.cap, .int .i64 c.way]] w fun e w' => e = .returned (.bool (changeB c)) ∧ Below w.heap.size w w' := by
  obtain ⟨bx, hbx⟩ : ∃ W, w.alloc (.cells (chC c) 71) = W := ⟨_, rfl⟩
  have hB0 : Blk bx w.heap.size 71 (chC c) := by rw [← hbx]; exact Blk.new _ _ _
  have hb0 : Below w.heap.size w bx := by rw [← hbx]; exact (Below.refl _ _).alloc (Nat.le_refl _) _
  go_enter Tryz.func76, Tryz.ntmps76
  go_wp2_with fail
  have hbx' : w.alloc (.cells #[.int .i64 c.b, .int .i64 c.d, .int .i64 c.k, .int .i64 c.rk, .int .i64 c.rv, .int .i64 c.ra, .int .i64 c.rz, .slice c.A c.l.length c.cap, .int .i64 c.way] 71) = bx := hbx
  rw [hbx']
  have c2 : bx.cell? ⟨w.heap.size, 2, none⟩ = some (.int .i64 c.k) := hB0.cell 2
  have HK := hide hc
  have HB0 := hide hB0
  have HBE := hide hb0
  have hlt := hB0.lt
  have HS := hide (hs.below hb0)
  have HO := hide ho
  clear hbx hbx' hB0 hb0 hc hs ho
  go_region_held3 (fun w' => w'.cell? ⟨w.heap.size, 2, none⟩ = some (.int .i64 c.k)) (first | with_reducible exact c2 | go_keep)
    ((with_reducible refine (checks_any _).mono ?_
      rintro e w4 ⟨rfl, hck, hb4⟩
      have hl : (Instr.lookup 245 (.map (some bx.heap.size)) (.int .i64 c.k) true).run Tryz.prog w4 = .ok (.tuple #[fnOf c.k, .bool (isKind c.k)]) w4 := checks_look hck c.k HK.out
      have c2 := kept hb4 c2
      have HB4 := hide hb4
      have HC4 := hide hck
      clear hck hb4))
  have hbx4 := chain HBE.out (show Below bx.heap.size bx w4 from bel_undrew HB4.out)
  have hB4 : Blk w4 w.heap.size 71 (chC c) := HB0.out.drew.below HB4.out hlt
  have HBX := hide hbx4
  have z0 : w4.cell? ⟨w.heap.size, 0, none⟩ = some (.int .i64 c.b) := hB4.cell 0
  have z1 : w4.cell? ⟨w.heap.size, 1, none⟩ = some (.int .i64 c.d) := hB4.cell 1
  have z3 : w4.cell? ⟨w.heap.size, 3, none⟩ = some (.int .i64 c.rk) := hB4.cell 3
  have z4 : w4.cell? ⟨w.heap.size, 4, none⟩ = some (.int .i64 c.rv) := hB4.cell 4
  have z5 : w4.cell? ⟨w.heap.size, 5, none⟩ = some (.int .i64 c.ra) := hB4.cell 5
  have z6 : w4.cell? ⟨w.heap.size, 6, none⟩ = some (.int .i64 c.rz) := hB4.cell 6
  have z7 : w4.cell? ⟨w.heap.size, 7, none⟩ = some (.slice c.A c.l.length c.cap) := hB4.cell 7
  have z8 : w4.cell? ⟨w.heap.size, 8, none⟩ = some (.int .i64 c.way) := hB4.cell 8
  have HS4 := hide (HS.out.below (bel_undrew HB4.out))
  clear hB4 hbx4 HC4 hl
  obtain ⟨D1, hD1⟩ : ∃ D, decide (1 ≤ c.b ∧ c.b ≤ 292194) = D := ⟨_, rfl⟩
  obtain ⟨D2, hD2⟩ : ∃ D, decide (1 ≤ c.d ∧ c.d ≤ 292194) = D := ⟨_, rfl⟩
  obtain ⟨K, hK⟩ : ∃ K, kindB c = K := ⟨_, rfl⟩
  have HR := hide (show changeB c = (D1 && D2 && K) by rw [changeB, hD1, hD2, hK])
  have HD1 := hide (fun W => day_is hD1 W)
  have HD2 := hide (fun W => day_is hD2 W)
  have hcases : (isKind c.k = false ∧ K = false) ∨ (isKind c.k = true ∧ ∃ f, fnOf c.k = .func (.func f) #[] #[] ∧ (∀ args w, (callFunc f args).run Tryz.prog w = .ok (.enter f args) w) ∧ Calls Tryz.prog f #[.agg #[.int .i64 c.b, .int .i64 c.d, .int .i64 c.k, .int .i64 c.rk, .int .i64 c.rv, .int .i64 c.ra, .int .i64 c.rz, .slice c.A c.l.length c.cap, .int .i64 c.way]] w4 fun e w' => e = .returned (.bool K) ∧ Below w4.heap.size w4 w') := by
    rw [← hK]
    rcases (show c.k = 1 ∨ c.k = 2 ∨ c.k = 3 ∨ c.k = 4 ∨ (c.k < 1 ∨ 4 < c.k) by omega) with h | h | h | h | h
    · exact .inr ⟨by simp [isKind, h], 184, by simp [fnOf, h], Go.Proofs.enters_of Tryz.func184 (by kernel_rfl) rfl, by rw [show kindB c = kind1 c by simp [kindB, h]]; exact ck1⟩
    · exact .inr ⟨by simp [isKind, h], 185, by simp [fnOf, h], Go.Proofs.enters_of Tryz.func185 (by kernel_rfl) rfl, by rw [show kindB c = kind2 c by simp [kindB, h]]; exact ck2 HS4.out HO.out⟩
    · exact .inr ⟨by simp [isKind, h], 186, by simp [fnOf, h], Go.Proofs.enters_of Tryz.func186 (by kernel_rfl) rfl, by rw [show kindB c = kind3 c by simp [kindB, h]]; exact ck3⟩
    · exact .inr ⟨by simp [isKind, h], 187, by simp [fnOf, h], Go.Proofs.enters_of Tryz.func187 (by kernel_rfl) rfl, by rw [show kindB c = kind4 c by simp [kindB, h]]; exact ck4⟩
    · exact .inl ⟨by simp [isKind]; omega, by rw [kindB, if_neg (by omega), if_neg (by omega), if_neg (by omega), if_neg (by omega)]⟩
  clear hD1 hD2 hK
  rcases hcases with ⟨hi, rfl⟩ | ⟨hi, f, hf, eg, hc⟩
  · rw [hi]
    go_wp2_with fail
    go_ret
    exact ⟨ret_bool (by rw [HR.out]; simp), HBX.out⟩
  · have HC := hide hc
    rw [hi, hf]
    clear hi hf hc
    cases D1
    · go_wp2_with fail
      refine (HD1.out _).mono ?_
      rintro e w' ⟨rfl, rfl⟩
      go_wp2_with fail
      go_ret
      exact ⟨ret_bool (by rw [HR.out]; simp), HBX.out⟩
    cases D2
    · go_wp2_with fail
      refine (HD1.out _).mono ?_
      rintro e w' ⟨rfl, rfl⟩
      go_wp2_with fail
      refine (HD2.out _).mono ?_
      rintro e w' ⟨rfl, rfl⟩
      go_wp2_with fail
      go_ret
      exact ⟨ret_bool (by rw [HR.out]; simp), HBX.out⟩
    · go_wp2_with fail
      refine (HD1.out _).mono ?_
      rintro e w' ⟨rfl, rfl⟩
      go_wp2_with fail
      refine (HD2.out _).mono ?_
      rintro e w' ⟨rfl, rfl⟩
      go_wp2_with fail
      refine HC.out.mono ?_
      rintro e w5 ⟨rfl, hb5⟩
      have H5 := hide (chain HBX.out hb5)
      clear hb5
      go_wp2_with fail
      go_ret
      exact ⟨ret_bool (by rw [HR.out]; simp), H5.out⟩
end Go.Proofs.YtmfohnchnbgbaaaGreat
