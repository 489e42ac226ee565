/- Part 6 of the proof. -/
import Derived.Shelf.Spec.SlicesInsert
import Derived.Test.YtmfohnchnbgbaaaGreatDoorRows
import Derived.ProofKit
import Derived.BigQuiet
import Derived.Deep.QuietTactic
import Derived.Deep.RegionWith
import Derived.Deep.DeepCutAuto
import Derived.Deep.RegionHeld3
import Derived.Deep.RegionLaw
import Derived.LaidEql
import Derived.Stop.Asserts
import Derived.RowKitTokens
import Derived.Test.YtmfohnchnbgbaaaGreatDoorYaM05
/- Rounding down. -/
namespace Go.Proofs.YtmfohnchnbgbaaaGreatDoor
open Go.RowKit

theorem dn1_any (q r c : Int) (w : World) : Calls Tryz.prog 175 #[.int .u64 q, .int .u64 r, .int .u64 c] w fun e w' => e = .returned (.bool false) ∧ w' = w := by
  go_enter Tryz.func175, Tryz.ntmps175
  go_wp2
  go_ret
  exact ⟨rfl, rfl⟩
set_option maxRecDepth 100000 in
set_option maxHeartbeats 1000000 in
theorem of_down (a b c : Nat) (ha : a ≤ 9223372036854775807) (hb : b ≤ 9223372036854775807) (hc : c ≤ 9223372036854775807) (hc0 : 0 < c) (h4 : a * b / c ≤ 4000000000000000000) (w : World) :
    Calls Tryz.prog 134 #[.agg #[.func (.func 175) #[] #[]], .int .i64 a, .int .i64 b, .int .i64 c] w
      fun e w' => e = .returned (.tuple #[.int .i64 (a * b / c : Nat), .int .i64 0]) ∧ Below w.heap.size w w' := by
  obtain ⟨Z, hZ⟩ : ∃ z, a * b / c = z := ⟨_, rfl⟩
  rw [hZ] at h4 ⊢
  have HZ := hide hZ
  clear hZ
  have ha0 : ¬ (a : Int) < 0 := by omega
  have hb0 : ¬ (b : Int) < 0 := by omega
  have hcz : ¬ (c : Int) < 0 := by omega
  have hcy : ((c : Int) == 0) = false := by simp; omega
  have C1 : IntKind.u64.wrap (a : Int) = (a : Int) := Mul64.wrapN _ (by omega)
  have C2 : IntKind.u64.wrap (b : Int) = (b : Int) := Mul64.wrapN _ (by omega)
  have C3 : IntKind.u64.wrap (c : Int) = (c : Int) := Mul64.wrapN _ (by omega)
  go_enter Tryz.func134, Tryz.ntmps134
  go_wp2_with fail
  refine (mul64_any a b (by omega) (by omega) _).mono ?_
  rintro e w1 ⟨rfl, rfl⟩
  obtain ⟨p, hp⟩ : ∃ p, a * b = p := ⟨_, rfl⟩
  rw [hp]
  have HZP := hide (show p / c = Z by rw [← hp]; exact HZ.out)
  obtain ⟨hi, hhi⟩ : ∃ z, p / 18446744073709551616 = z := ⟨_, rfl⟩
  obtain ⟨lo, hlo⟩ : ∃ z, p % 18446744073709551616 = z := ⟨_, rfl⟩
  rw [hhi, hlo]
  have hpe : 18446744073709551616 * hi + lo = p := by omega
  have hlob : lo < 18446744073709551616 := by omega
  have HPE := hide hpe
  clear hhi hlo hp
  have hbig : ¬ c ≤ hi := fun hb => by
    have hz := HZP.out
    have h1 : 18446744073709551616 ≤ p / c := by
      rw [← hpe]
      refine (Nat.le_div_iff_mul_le hc0).2 ?_
      have : 18446744073709551616 * c ≤ 18446744073709551616 * hi := Nat.mul_le_mul_left _ hb
      omega
    omega
  have hbig' : ¬ (c : Int) ≤ (hi : Int) := by omega
  clear hpe
  go_wp2_with fail
  refine (div64_any hi lo c hlob (by omega) hc0 (by omega) _).mono ?_
  rintro e w1 ⟨rfl, hb1⟩
  rw [HPE.out]
  have K0 : w1.cell? ⟨w.heap.size, 0, none⟩ = some (.func (.func 175) #[] #[]) := kept hb1 (by simp)
  have HB1 := hide (chain1 hb1)
  obtain ⟨q, hq⟩ : ∃ z, p / c = z := ⟨_, rfl⟩
  obtain ⟨r, hr⟩ : ∃ z, p % c = z := ⟨_, rfl⟩
  have HZQ := hide (show Z = q by rw [← HZP.out, hq])
  have hZq := HZQ.out
  rw [hq, hr]
  have hkl := block_lt_of_cell K0
  have hq4' : ¬ (4000000000000000000 : Int) < (q : Int) := by omega
  clear hb1 hq hr hZq
  go_wp2_with fail
  refine (dn1_any q r c _).mono ?_
  rintro e w2 ⟨rfl, rfl⟩
  go_wp2_with fail
  go_ret2
  rw [HZQ.out]
  exact ⟨rfl, HB1.out⟩
theorem down0_any (w : World) : Calls Tryz.prog 163 #[] w fun e w' => e = .returned (.agg #[.func (.func 175) #[] #[]]) ∧ Below w.heap.size w w' := by
  have hst : (store ⟨w.heap.size, 0, none⟩ (.func (.func 175) #[] #[])).run Tryz.prog (w.alloc (.cells #[.nilFunc] 241)) = .ok () ((w.alloc (.cells #[.nilFunc] 241)).setCell ⟨w.heap.size, 0, none⟩ (.func (.func 175) #[] #[])) := by
    rw [run_store Tryz.prog _ ⟨w.heap.size, 0, none⟩ _ _ (by rfl)]
    simp
  go_enter Tryz.func163, Tryz.ntmps163
  go_wp2_with fail
  exact ret_row rfl rfl rfl (Blk.new w 241 #[.func (.func 175) #[] #[]]) Tryz.underlying241 rfl (by kernel_rfl) ⟨rfl, (Below.refl _ _).alloc (Nat.le_refl _) _⟩
theorem down_any (a b c : Nat) (ha : a ≤ 9223372036854775807) (hb : b ≤ 9223372036854775807) (hc : c ≤ 9223372036854775807) (hc0 : 0 < c) (h4 : a * b / c ≤ 4000000000000000000) (w : World) :
    Calls Tryz.prog 136 #[.int .i64 a, .int .i64 b, .int .i64 c] w fun e w' => e = .returned (.tuple #[.int .i64 (a * b / c : Nat), .int .i64 0]) ∧ Below w.heap.size w w' := by
  obtain ⟨q, hq⟩ : ∃ z, a * b / c = z := ⟨_, rfl⟩
  have HO := hide (fun W => of_down a b c ha hb hc hc0 h4 W)
  rw [hq] at HO ⊢
  clear hq h4
  go_enter Tryz.func136, Tryz.ntmps136
  go_wp2_with fail
  refine (down0_any w).mono ?_
  rintro e w1 ⟨rfl, hb1⟩
  have HB1 := hide hb1
  clear hb1
  go_wp2_with fail
  refine (HO.out _).mono ?_
  rintro e w2 ⟨rfl, hb2⟩
  have HB2 := hide (chain HB1.out hb2)
  clear hb2
  go_wp2_with fail
  go_ret2
  exact ⟨rfl, HB2.out⟩
end Go.Proofs.YtmfohnchnbgbaaaGreatDoor

/- The runner: parts are added up. -/
namespace Go.Proofs.YtmfohnchnbgbaaaGreatDoor
open Go.RowKit

theorem run1_any (g : Nat) (s p : Int) (w : World) (hB : Blk w g 3 #[.int .i64 s]) (hp : 0 ≤ p) (hs : 0 ≤ s) (h4 : s + p ≤ 4000000000000000000) :
    Calls Tryz.prog 162 #[.int .i64 p, .pointer (some ⟨g, 0, none⟩)] w fun e w' => e = .returned (.tuple #[.int .i64 (s + p), .int .i64 0]) ∧ w' = w.setCell ⟨g, 0, none⟩ (.int .i64 (s + p)) := by
  have x0 := hB.cell 0
  have f0 := hB.frozen 0
  have hl := hB.lt
  simp at x0
  go_enter Tryz.func162, Tryz.ntmps162
  go_wp2_with fail
  go_ret2
  exact ⟨rfl, rfl⟩
theorem runner_any (w : World) : Calls Tryz.prog 135 #[] w fun e w' => e = .returned (.func (.func 162) #[] #[.pointer (some ⟨w.heap.size, 0, none⟩)]) ∧ Blk w' w.heap.size 3 #[.int .i64 0] ∧ Below w.heap.size w w' := by
  have hmf : ∀ (fn : Fn) (first cap : Array Value) (w : World), (Instr.makeFunc fn first cap).run Tryz.prog w = .ok (.func fn first cap) w := fun _ _ _ _ => rfl
  go_enter Tryz.func135, Tryz.ntmps135
  go_wp2_with fail
  go_ret
  exact ⟨rfl, Blk.new _ _ _, (Below.refl _ _).alloc (Nat.le_refl _) _⟩
end Go.Proofs.YtmfohnchnbgbaaaGreatDoor

/- Whether a number is among some. -/
namespace Go.Proofs.YtmfohnchnbgbaaaGreatDoor
open Go.RowKit

theorem index_yes (A : Option Addr) (cap n k : Nat) (l : List Int) (v : Int) (w : World) (hs : SV w 1 A n cap (l.map encI)) (hk : l[k]? = some v) (hm : n ≤ 1000000) :
    Calls Tryz.prog 85 #[.slice A n cap, .int .i64 v] w fun e w' => (∃ j : Nat, e = .returned (.int .i64 j)) ∧ Below w.heap.size w w' := by
  have hn : l.length = n := by have := hs.len; simpa using this
  have HN := hide hn
  have HS := hide hs
  have HK := hide hk
  have hkn : k < n := by have := lt_of_get hk; omega
  clear hn hs hk
  go_enter Tryz.func85, Tryz.ntmps85
  go_wp2_with fail
  go_loopw [8] (fun q wr => ∃ i : Nat, i ≤ k ∧ q = .int .i64 i ∧ w = wr) (fun q _ => k - (RowKit.intOf q).toNat)
  case atStart => exact ⟨0, Nat.zero_le _, rfl, rfl⟩
  case round =>
    obtain ⟨i, hi, rfl, rfl⟩ := hrel
    obtain ⟨x, hx⟩ := get_of (l := l) (k := i) (by rw [HN.out]; omega)
    obtain ⟨b, off, rfl, -, hco⟩ := HS.out.sl i (encI x) (by simp [hx])
    have oc := hco 0 _ rfl
    rw [Nat.mul_one, Nat.add_zero] at oc
    have hk0 : (0 : Int) ≤ (i : Int) := by omega
    have hk1 : (i : Int) < (n : Int) := by omega
    have HX := hide hx
    clear hco hx
    by_cases hv : v = x
    · subst hv
      go_wp2_with fail
      go_ret
      exact ⟨⟨i, by first | rfl | trivial⟩, Below.refl _ _⟩
    · have hq : (v == x) = false := by simpa using hv
      have hik : i < k := by
        rcases Nat.lt_or_ge i k with h | h
        · exact h
        · have : i = k := by omega
          subst this
          have h1 := HX.out
          rw [HK.out] at h1
          exact absurd (Option.some.inj h1) hv
      clear hv
      go_wp2_with fail
      go_roundw
      case rel => exact ⟨i + 1, by omega, by go_num, by first | rfl | trivial⟩
      case measure => simp [RowKit.intOf]; omega
theorem contains_yes (A : Option Addr) (cap n k : Nat) (l : List Int) (v : Int) (w : World) (hs : SV w 1 A n cap (l.map encI)) (hk : l[k]? = some v) (hm : n ≤ 1000000) :
    Calls Tryz.prog 45 #[.slice A n cap, .int .i64 v] w fun e w' => e = .returned (.bool true) ∧ Below w.heap.size w w' := by
  have HI := hide (index_yes A cap n k l v w hs hk hm)
  clear hs hk
  go_enter Tryz.func45, Tryz.ntmps45
  go_wp2_with fail
  refine HI.out.mono ?_
  rintro e w2 ⟨⟨j, rfl⟩, h2⟩
  have hj : (0 : Int) ≤ (j : Int) := by omega
  go_wp2_with fail
  go_ret
  exact ⟨ret_bool (by simp), h2⟩
end Go.Proofs.YtmfohnchnbgbaaaGreatDoor

/- slices.Repeat of one number, twice; what is dealt out equally. -/
namespace Go.Proofs.YtmfohnchnbgbaaaGreatDoor
open Go.RowKit Go.Lib

/-- copy, of rows of sz cells. -/
theorem run_copy_rows {P : Program} (w : World) (dT sT ty elem : TypeId) (sz : Nat) (b o dLen dCap : Nat) (a : Addr) (sLen sCap : Nat) (cs : List Value)
    (hu : P.underlying dT = some (.slice elem)) (hs : (P.info? elem).map (·.size) = some sz) (hn : cs.length = Nat.min sLen dLen * sz)
    (hsrc : ∀ j v, cs[j]? = some v → w.cell? (a.add j) = some v) (hc : ∀ j, j < cs.length → (w.cell? ⟨b, o + j, none⟩).isSome = true) (hf : ∀ j, j < cs.length → w.frozen? ⟨b, o + j, none⟩ = false) (h1 : ∀ v ∈ cs, v.oneCell' = true) :
    (Builtin.copy_ #[dT, sT] ty #[.slice (some ⟨b, o, none⟩) dLen dCap, .slice (some a) sLen sCap]).run P w = .ok (goInt (Nat.min sLen dLen)) (w.setCells b o cs) := by
  have hl := run_loadCells_list (P := P) w a cs hsrc
  have hst := run_storeCells_cells (P := P) b o cs 0 w (by simpa using hc) (by simpa using hf) h1
  cases hq : P.info? elem with
  | none => simp [hq] at hs
  | some i =>
    have hi : i.size = sz := by simpa [hq] using hs
    rw [hn] at hl
    simp [Builtin.copy_, run_underlying hu, Builtin.lenOf, Builtin.firstCells, sizeOf, typeInfo, hq, hi, hl, hst]

theorem bmul_any (x y : Nat) (hx : x < 4294967296) (hy : y < 4294967296) (w : World) :
    Calls Tryz.prog 137 #[.int .u64 x, .int .u64 y] w fun e w' => e = .returned (.tuple #[.int .u64 0, .int .u64 ((x * y : Nat) : Int)]) ∧ w' = w := by
  have hxy : x * y < 18446744073709551616 := by
    have := Nat.mul_lt_mul'' hx hy
    omega
  have C1 : IntKind.u64.wrap (x : Int) = (x : Int) := Mul64.wrapN _ (by omega)
  have C2 : IntKind.u64.wrap (y : Int) = (y : Int) := Mul64.wrapN _ (by omega)
  obtain ⟨p, hp⟩ : ∃ p, x * y = p := ⟨_, rfl⟩
  have hm := mul64_any x y (by omega) (by omega) w
  rw [hp] at hxy hm ⊢
  rw [Nat.div_eq_of_lt hxy, Nat.mod_eq_of_lt hxy] at hm
  have C3 : IntKind.u64.wrap (p : Int) = (p : Int) := Mul64.wrapN _ (by omega)
  have HM := hide hm
  clear hm
  go_enter Tryz.func137, Tryz.ntmps137
  go_wp2_with fail
  refine HM.out.mono ?_
  rintro e w1 ⟨rfl, rfl⟩
  go_wp2_with fail
  go_ret2
  exact ⟨rfl, rfl⟩

set_option maxRecDepth 100000 in
set_option maxHeartbeats 4000000 in
theorem repeat_any (A : Option Addr) (cap : Nat) (w : World) (hs : SV w 1 A 1 cap ([1].map encI)) :
    Calls Tryz.prog 88 #[.slice A 1 cap, .int .i64 2] w fun e w' => e = .returned (.slice (some ⟨w.heap.size, 0, none⟩) 2 2) ∧ Blk w' w.heap.size 3 #[.int .i64 1, .int .i64 1] ∧ Below w.heap.size w w' := by
  obtain ⟨b, off, rfl, hbl, hco⟩ := hs.sl 0 (encI 1) rfl
  have c0 := hco 0 _ rfl
  rw [Nat.zero_mul, Nat.add_zero] at c0
  have hmk : (Instr.makeSlice 36 (.int .i64 2) (.int .i64 2)).run Tryz.prog w = .ok (.slice (some ⟨w.heap.size, 0, none⟩) 2 2) (w.alloc (.cells (cellsI [0, 0]) 3)) := make_ints 2 [0, 0] rfl (by decide) rfl w
  obtain ⟨w1, hw1⟩ : ∃ W, w.alloc (.cells (cellsI [0, 0]) 3) = W := ⟨_, rfl⟩
  have hB1 : Blk w1 w.heap.size 3 #[.int .i64 0, .int .i64 0] := by rw [← hw1]; exact Blk.new _ _ _
  have hb1 : Below w.heap.size w w1 := by rw [← hw1]; exact (Below.refl _ _).alloc (Nat.le_refl _) _
  have c1 := kept hb1 c0
  rw [hw1] at hmk
  have hcp1 : ∀ ty, (Builtin.copy_ #[36, 36] ty #[.slice (some ⟨w.heap.size, 0, none⟩) 2 2, .slice (some ⟨b, off, none⟩) 1 cap]).run Tryz.prog w1 = .ok (goInt 1) (w1.setCells w.heap.size 0 [.int .i64 1]) := fun ty => by
    refine run_copy_rows w1 _ _ ty 3 1 w.heap.size 0 2 2 ⟨b, off, none⟩ 1 cap [.int .i64 1] Tryz.underlying36 (by kernel_rfl) rfl ?_ ?_ ?_ (by simp [Value.oneCell'])
    · intro j v hj
      rcases j with _ | j
      · simp at hj; subst hj; rw [Addr.add_lit]; exact c1
      · simp at hj
    · intro j hj
      rw [hB1.cell]
      rcases j with _ | j
      · rfl
      · simp at hj
    · intro j hj; exact hB1.frozen _
  obtain ⟨w2, hw2⟩ : ∃ W, w1.setCells w.heap.size 0 [.int .i64 1] = W := ⟨_, rfl⟩
  have hB2 : Blk w2 w.heap.size 3 #[.int .i64 1, .int .i64 0] := by rw [← hw2]; exact hB1.set_ 0 _
  have hb2 : Below w.heap.size w w2 := by rw [← hw2]; exact hb1.setCell (p := ⟨w.heap.size, 0, none⟩) (Nat.le_refl _) _
  rw [hw2] at hcp1
  have hcp2 : ∀ ty dc sc, (Builtin.copy_ #[36, 36] ty #[.slice (some ⟨w.heap.size, 1, none⟩) 1 dc, .slice (some ⟨w.heap.size, 0, none⟩) 1 sc]).run Tryz.prog w2.drew = .ok (goInt 1) (w2.drew.setCells w.heap.size 1 [.int .i64 1]) := fun ty dc sc => by
    refine run_copy_rows w2.drew _ _ ty 3 1 w.heap.size 1 1 dc ⟨w.heap.size, 0, none⟩ 1 sc [.int .i64 1] Tryz.underlying36 (by kernel_rfl) rfl ?_ ?_ ?_ (by simp [Value.oneCell'])
    · intro j v hj
      rcases j with _ | j
      · simp at hj; subst hj; rw [Addr.add_lit]; exact hB2.drew.cell 0
      · simp at hj
    · intro j hj
      rw [hB2.drew.cell]
      rcases j with _ | j
      · rfl
      · simp at hj
    · intro j hj; exact hB2.drew.frozen _
  obtain ⟨w3, hw3⟩ : ∃ W, w2.drew.setCells w.heap.size 1 [.int .i64 1] = W := ⟨_, rfl⟩
  have hB3 : Blk w3 w.heap.size 3 #[.int .i64 1, .int .i64 1] := by rw [← hw3]; exact hB2.drew.set_ 1 _
  have hb3 : Below w.heap.size w w3 := by rw [← hw3]; exact hb2.drew.setCell (p := ⟨w.heap.size, 1, none⟩) (Nat.le_refl _) _
  rw [hw3] at hcp2
  have HB3 := hide hB3
  have H3 := hide hb3
  have HMK := hide hmk
  have HC1 := hide hcp1
  have HC2 := hide hcp2
  have C1 : IntKind.u64.wrap (1 : Int) = 1 := by decide
  have C2 : IntKind.u64.wrap (2 : Int) = 2 := by decide
  have C3 : IntKind.i64.wrap (2 : Int) = 2 := by decide
  have hm := bmul_any 1 2 (by decide) (by decide) w
  simp at hm
  have HM := hide hm
  clear hm hs hbl hco c0 c1 hmk hw1 hB1 hb1 hcp1 hw2 hB2 hb2 hcp2 hw3 hB3 hb3
  go_enter Tryz.func88, Tryz.ntmps88
  go_wp2_with fail
  refine HM.out.mono ?_
  rintro e w' ⟨rfl, rfl⟩
  have hmk := HMK.out
  have hcp1 := HC1.out
  go_wp2_with fail
  clear hmk hcp1
  go_loopw [8] (fun n wr => ∃ k : Nat, n = .int .i64 k ∧ ((k = 1 ∧ wr = w2) ∨ (k = 2 ∧ wr = w3))) (fun n _ => 2 - (RowKit.intOf n).toNat)
  case atStart => exact ⟨1, rfl, .inl ⟨rfl, rfl⟩⟩
  case round =>
    obtain ⟨k, rfl, ⟨rfl, rfl⟩ | ⟨rfl, rfl⟩⟩ := hrel
    · have hcp2 := HC2.out
      have hdr : wr.drew.heap.size = wr.heap.size := rfl
      go_wp2_with fail
      go_region_law fail
      clear hcp2
      simp only [Act.put, List.getElem_toArray, List.getElem_cons_succ, List.getElem_cons_zero, List.setIfInBounds_toArray, List.set_cons_zero, List.set_cons_succ]
      go_roundw
      case rel =>
        exact ⟨_, _, _, _, _, _, _, _, _, _, _, _, _, _, ⟨2, rfl, .inr ⟨rfl, rfl⟩⟩, rfl⟩
      case measure => simp [RowKit.intOf]
    · go_wp2_with fail
      go_ret
      exact ⟨rfl, HB3.out, H3.out⟩
end Go.Proofs.YtmfohnchnbgbaaaGreatDoor

/- An amount dealt out in two equal parts. -/
namespace Go.Proofs.YtmfohnchnbgbaaaGreatDoor
open Go.RowKit Go.Lib

theorem make_cap2 (W : World) : (Instr.makeSlice 36 (.int .i64 0) (.int .i64 2)).run Tryz.prog W = .ok (.slice (some ⟨W.heap.size, 0, none⟩) 0 2) (W.alloc (.cells #[.int .i64 0, .int .i64 0] 3)) := by
  obtain ⟨i, h1, h2, h3, h4⟩ := info_parts (P := Tryz.prog) (e := 3) (z := .int .i64 0) (size := 1) (bytes := 8) (by kernel_rfl)
  have := run_makeSlice (P := Tryz.prog) W 36 3 i (.int .i64 0) Tryz.underlying36 h1 h2 .i64 .i64 0 2 (by omega) (by omega) (by rw [h3]; decide) (by omega) (by omega)
  have e : madeCells #[Value.int .i64 0] 2 = #[.int .i64 0, .int .i64 0] := by
    apply Array.ext'
    rw [toList_madeCells_one]
    rfl
  rw [this, h3]
  show Result.ok _ (W.alloc (.cells (madeCells #[Value.int .i64 0] 2) _)) = _
  rw [e]
  rfl
/-- A block of numbers reads as rows of one. -/
theorem sl_ints {W : World} {g : Nat} {e : TypeId} {l : List Int} {cs : Array Value} (h : Blk W g e cs) (hc : cs.toList = l.map (Value.int .i64)) : Sl W W.heap.size 1 (some ⟨g, 0, none⟩) (l.map encI) := by
  intro i row hr
  rw [List.getElem?_map] at hr
  obtain ⟨x, hx, rfl⟩ := Option.map_eq_some_iff.1 hr
  refine ⟨g, 0, rfl, h.lt, fun j u hu => ?_⟩
  rcases j with _ | j
  · simp [encI] at hu
    subst hu
    rw [h.cell, ← Array.getElem?_toList, hc]
    simp [hx]
  · simp [encI] at hu
/-- The first so many sums. -/
def sumsU (k : Nat) : List Int := (List.range k).map fun j => ((j + 1 : Nat) : Int)
theorem sumsU_succ (k : Nat) : sumsU (k + 1) = sumsU k ++ [((k + 1 : Nat) : Int)] := by simp [sumsU, List.range_succ]
theorem sumsU_len (k : Nat) : (sumsU k).length = k := by simp [sumsU]
def outC : Nat → Array Value
  | 0 => #[.int .i64 0, .int .i64 0]
  | 1 => #[.int .i64 5000, .int .i64 0]
  | _ => #[.int .i64 5000, .int .i64 5000]

set_option maxRecDepth 100000 in
set_option maxHeartbeats 4000000 in
theorem split_any (A : Option Addr) (cap : Nat) (w : World) (hs : SV w 1 A 2 cap ([1, 1].map encI)) :
    Calls Tryz.prog 87 #[.int .i64 10000, .slice A 2 cap] w fun e w' => ∃ g, e = .returned (.tuple #[.slice (some ⟨g, 0, none⟩) 2 2, .int .i64 0]) ∧ Blk w' g 3 #[.int .i64 5000, .int .i64 5000] ∧ w.heap.size ≤ g ∧ Below w.heap.size w w' := by
  have HS := hide hs
  clear hs
  go_enter Tryz.func87, Tryz.ntmps87
  go_wp2_with fail
  refine (runner_any _).mono ?_
  rintro e w1 ⟨rfl, hR, h1⟩
  have hmk := make_cap2 w1
  obtain ⟨w2, hw2⟩ : ∃ W, w1.alloc (.cells #[.int .i64 0, .int .i64 0] 3) = W := ⟨_, rfl⟩
  have ho2 : OwnS w2 w1.heap.size 3 1 (some ⟨w1.heap.size, 0, none⟩) 0 2 [] := by
    rw [← hw2]
    exact ⟨World.ownsRow_made (base := w1.heap.size) (size := 1) w1 #[.int .i64 0, .int .i64 0] 2 (Nat.le_refl _) (by simp [maxLen]) rfl, rfl, RowsOk.nil_⟩
  have h2 : Below w.heap.size w w2 := by rw [← hw2]; exact h1.alloc h1.size _
  have hR2 : Blk w2 w.heap.size 3 #[.int .i64 0] := by rw [← hw2]; exact hR.alloc _
  have hlt := hR.lt
  have hsz2 : w1.heap.size ≤ w2.heap.size := by rw [← hw2]; simp
  have H2 := hide h2
  have HR2 := hide hR2
  have HO2 := hide ho2
  rw [hw2] at hmk
  clear h1 hR h2 hR2 ho2 hw2
  go_wp2_with fail
  clear hmk
  go_loopw [7, 8, 35] (fun ov s i wr => ∃ (k : Nat) (A' : Option Addr) (c' : Nat), k ≤ 2 ∧ i = .int .i64 k ∧ ov = .bool false ∧ s = .slice A' k c' ∧ OwnS wr w1.heap.size 3 1 A' k c' ((sumsU k).map encI) ∧ Blk wr w.heap.size 3 #[.int .i64 k] ∧ Below w.heap.size w wr ∧ w1.heap.size ≤ wr.heap.size) (fun _ _ i _ => 2 - (RowKit.intOf i).toNat)
  case atStart => exact ⟨0, _, _, by omega, rfl, rfl, rfl, HO2.out, HR2.out, H2.out, hsz2⟩
  case round =>
    obtain ⟨k, A', c', hk, rfl, rfl, rfl, ho, hR, hb, hsz⟩ := hrel
    have HO := hide ho
    have HR := hide hR
    have HB := hide hb
    clear ho hR
    by_cases hlt2 : k < 2
    · obtain ⟨b, off, rfl, hbl, c0⟩ := (HS.out.below hb).sl.i (l := [1, 1]) (k := k) (n := 1) (by rcases (show k = 0 ∨ k = 1 by omega) with rfl | rfl <;> rfl)
      have hk0 : (0 : Int) ≤ (k : Int) := by omega
      have hk1 : (k : Int) < 2 := by omega
      clear hb
      go_wp2_with fail
      refine (run1_any w.heap.size k 1 _ HR.out (by omega) (by omega) (by omega)).mono ?_
      rintro e w4 ⟨rfl, rfl⟩
      have HO3 := hide (HO.out.far (p := ⟨w.heap.size, 0, none⟩) (fun q hq => by have := (HO.out.lt q hq).1; simp; omega) (.int .i64 ((k : Int) + 1)))
      have hR3 := HR.out.set_ 0 (.int .i64 ((k : Int) + 1))
      simp at hR3
      have HR3 := hide hR3
      have HB3 := hide (HB.out.setCell (p := ⟨w.heap.size, 0, none⟩) (Nat.le_refl _) (.int .i64 ((k : Int) + 1)))
      obtain ⟨W4, hW4⟩ : ∃ W, wr.setCell ⟨w.heap.size, 0, none⟩ (.int .i64 ((k : Int) + 1)) = W := ⟨_, rfl⟩
      have hsz4 : w1.heap.size ≤ W4.heap.size := by rw [← hW4]; simpa using hsz
      rw [hW4] at HO3 HR3 HB3 ⊢
      have hw4 : W4.heap.size = W4.heap.size := rfl
      clear hR3 hW4 c0 hbl
      go_wp2_with (at_builtin
                   refine wpList_app rfl (.tmp 53) (.tmp 55) 36 rfl elInt (B := w1.heap.size) (A2 := some ⟨_, 0, none⟩) (news := [((k : Int) + 1)].map encI) rfl (HO3.out.alloc _) rfl rfl ?_ (okI [(k : Int) + 1]) ?_ ?_ ?_ ?_
                   · exact sl_of_blk (cs := #[.int .i64 ((k : Int) + 1)]) (Blk.new _ _ _)
                   · simp only [maxLen]; omega
                   · omega
                   · simp; omega
                   intro A5 c5 w5 ho5 hg5 ha5
                   have HO5 := hide ho5
                   have hbg := (((Below.refl W4.heap.size W4).alloc (Nat.le_refl _) (.cells #[.int .i64 ((k : Int) + 1)] 3)))
                   have HR5 := hide (Blk.grown (HR3.out.alloc _) hg5 (fun he => by have := (HO3.out.lt _ he.symm).1; omega))
                   have HB5 := hide ((HB3.out.alloc HB3.out.size _).grown hg5 (by have := HB3.out.size; simp; omega) (fun q hq => by have := (HO3.out.lt q hq).1; omega))
                   have hsz5 := hg5.size
                   simp at hsz5
                   clear ho5 hg5 ha5 hbg)
      go_roundw
      case rel => exact ⟨k + 1, A5, c5, by omega, by go_num, rfl, rfl, by rw [sumsU_succ, List.map_append]; exact HO5.out, HR5.out, HB5.out, by omega⟩
      case measure => simp [RowKit.intOf]; omega
    · obtain rfl : k = 2 := by omega
      rename World => W0
      rw [show ((2 : Nat) : Int) = 2 from rfl]
      have hs1 := HO.out.sl
      obtain ⟨b, off, rfl, hbl, c0⟩ := hs1.i (l := sumsU 2) (k := 0) (n := 1) rfl
      obtain ⟨b', off', he, -, c1⟩ := hs1.i (l := sumsU 2) (k := 1) (n := 2) rfl
      cases he
      rw [Nat.add_zero] at c0
      have hmk := make_ints 2 [0, 0] rfl (by decide) rfl W0
      simp only [List.length_cons, List.length_nil, Nat.zero_add, Nat.reduceAdd] at hmk
      obtain ⟨w5, hw5⟩ : ∃ W, W0.alloc (.cells (cellsI [0, 0]) 3) = W := ⟨_, rfl⟩
      have hB5 : Blk w5 W0.heap.size 3 (outC 0) := by rw [← hw5]; exact Blk.new _ _ _
      have hb5 : Below W0.heap.size W0 w5 := by rw [← hw5]; exact (Below.refl _ _).alloc (Nat.le_refl _) _
      rw [hw5] at hmk
      have HB5 := hide hB5
      have H5 := hide hb5
      have H6 := hide (chain HB.out hb5)
      have hbsz := HB.out.size
      clear hb hw5 hB5 hb5
      have HS1 := hide hs1
      clear hs1
      go_wp2_with fail
      clear hmk
      go_loopw [15, 84] (fun d i ws => ∃ k : Nat, k ≤ 2 ∧ i = .int .i64 k ∧ d = .int .i64 (5000 * k) ∧ Blk ws W0.heap.size 3 (outC k) ∧ Below W0.heap.size W0 ws) (fun _ i _ => 2 - (RowKit.intOf i).toNat)
      case atStart => exact ⟨0, by omega, rfl, rfl, HB5.out, H5.out⟩
      case round =>
        obtain ⟨k, hk, rfl, rfl, hO, hbs⟩ := hrel
        have HO2 := hide hO
        have HBS := hide hbs
        have HBS2 := hide (chain HB.out hbs)
        by_cases hlt3 : k < 2
        · obtain ⟨b2, off2, he, -, c2⟩ := HS1.out.i (l := sumsU 2) (k := k) (n := (k : Int) + 1) (by rcases (show k = 0 ∨ k = 1 by omega) with rfl | rfl <;> rfl)
          cases he
          have y2 := kept hbs c2
          have hz0 : (HO2.out.cell k) = (HO2.out.cell k) := rfl
          have hd := down_any 10000 (k + 1) 2 (by decide) (by omega) (by decide) (by decide) (by omega)
          rw [show 10000 * (k + 1) / 2 = 5000 * (k + 1) by omega] at hd
          have hd2 : ∀ W, Calls Tryz.prog 136 #[.int .i64 10000, .int .i64 ((k : Int) + 1), .int .i64 2] W fun e w' => e = .returned (.tuple #[.int .i64 (5000 * (k : Int) + 5000), .int .i64 0]) ∧ Below W.heap.size W w' := fun W => by
            have h := hd W
            rw [show (((5000 * (k + 1) : Nat)) : Int) = 5000 * (k : Int) + 5000 by omega, show ((k + 1 : Nat) : Int) = (k : Int) + 1 by omega] at h
            exact h
          have HD := hide hd2
          have hk0 : (0 : Int) ≤ (k : Int) := by omega
          have hk1 : (k : Int) < 2 := by omega
          clear hd hd2 hO hbs hz0 c2
          go_wp2_with fail
          refine (HD.out _).mono ?_
          rintro e w6 ⟨rfl, h6⟩
          have hO6 := HO2.out.below h6 HO2.out.lt
          have hcel := hO6.cell k
          obtain ⟨u, hu⟩ : ∃ u, (outC k)[k]? = some u := by rcases (show k = 0 ∨ k = 1 by omega) with rfl | rfl <;> exact ⟨_, rfl⟩
          rw [hu] at hcel
          have v0 := hO6.frozen k
          have H7 := hide (chain HBS.out h6)
          have HO6 := hide hO6
          clear h6 hO6 hu
          go_wp2_with fail
          go_roundw
          case rel => exact ⟨k + 1, by omega, by go_num, by go_num, by
            have h9 := HO6.out.set_ k (.int .i64 5000)
            have e9 : (outC k).setIfInBounds k (.int .i64 5000) = outC (k + 1) := by rcases (show k = 0 ∨ k = 1 by omega) with rfl | rfl <;> rfl
            rw [e9] at h9
            rw [show (5000 * (k : Int) + 5000 - 5000 * (k : Int)) = 5000 by omega]
            exact h9, H7.out.setCell (p := ⟨W0.heap.size, k, none⟩) (Nat.le_refl _) _⟩
          case measure => simp [RowKit.intOf]; omega
        · obtain rfl : k = 2 := by omega
          clear hO hbs
          go_wp2_with fail
          go_ret2
          exact ⟨W0.heap.size, rfl, HO2.out, HB.out.size, chain HB.out HBS.out⟩
set_option maxRecDepth 100000 in
set_option maxHeartbeats 400000 in
theorem equal_any (w : World) :
    Calls Tryz.prog 47 #[.int .i64 10000, .int .i64 2] w fun e w' => ∃ g, e = .returned (.slice (some ⟨g, 0, none⟩) 2 2) ∧ Blk w' g 3 #[.int .i64 5000, .int .i64 5000] ∧ w.heap.size ≤ g ∧ Below w.heap.size w w' := by
  have hS : SV (w.alloc (.cells #[.int .i64 1] 3)) 1 (some ⟨w.heap.size, 0, none⟩) 1 1 ([1].map encI) := ⟨sl_ints (l := [1]) (Blk.new _ _ _) rfl, rfl, by omega, by simp [maxLen], fun h => by cases h⟩
  have HR := hide (repeat_any _ _ _ hS)
  clear hS
  go_enter Tryz.func47, Tryz.ntmps47
  go_wp2_with fail
  refine HR.out.mono ?_
  rintro e w2 ⟨rfl, hB2, h2⟩
  have H2 := hide (chain1 h2)
  have hsz : (w.alloc (.cells #[.int .i64 1] 3)).heap.size = w.heap.size + 1 := by simp
  rw [hsz] at hB2 ⊢
  have hS2 : SV w2 1 (some ⟨w.heap.size + 1, 0, none⟩) 2 2 ([1, 1].map encI) := ⟨sl_ints (l := [1, 1]) hB2 rfl, rfl, by omega, by simp [maxLen], fun h => by cases h⟩
  have HSP := hide (split_any _ _ _ hS2)
  clear h2 hB2 hS2 hsz
  go_wp2_with fail
  refine HSP.out.mono ?_
  rintro e w3 ⟨g, rfl, hB3, hg, h3⟩
  have H3 := hide (chain H2.out h3)
  have HB3 := hide hB3
  have HG := hide (Nat.le_trans H2.out.size hg)
  clear h3 hB3 hg
  go_wp2_with fail
  go_ret
  exact ⟨g, rfl, HB3.out, HG.out, H3.out⟩
end Go.Proofs.YtmfohnchnbgbaaaGreatDoor

/- Days of the calendar: plain numbers, and the smallest functions. -/
namespace Go.Proofs.YtmfohnchnbgbaaaGreatDoor
open Go.RowKit
set_option maxRecDepth 100000

def lensC (y : Int) : Array Value := #[.int .i64 31, .int .i64 (28 + leapI y), .int .i64 31, .int .i64 30, .int .i64 31, .int .i64 30, .int .i64 31, .int .i64 31, .int .i64 30, .int .i64 31, .int .i64 30, .int .i64 31]
set_option maxHeartbeats 1000000 in
theorem leap_any (y : Int) (w : World) : Calls Tryz.prog 138 #[.int .i64 y] w fun e w' => e = .returned (.bool (leapB y)) ∧ w = w' := by
  go_enter Tryz.func138, Tryz.ntmps138
  go_wp2
  all_goals
    go_ret
    exact ⟨ret_bool (by simp only [tmod_zero] at *; rw [Bool.eq_iff_iff]; simp [leapB, tmod_zero]; try omega), rfl⟩

theorem leapI_t {y : Int} (h : leapB y = true) : leapI y = 1 := by simp [leapI, h]
theorem leapI_f {y : Int} (h : leapB y = false) : leapI y = 0 := by simp [leapI, h]

set_option maxHeartbeats 1000000 in
theorem lengths_any (y : Int) (w : World) : Calls Tryz.prog 90 #[.int .i64 y] w fun e w' => e = .returned (.agg (lensC y)) ∧ Below w.heap.size w w' := by
  cases hb : leapB y with
  | true =>
    have HL := hide (leapI_t hb)
    go_enter Tryz.func90, Tryz.ntmps90
    go_wp2_with (go_at_call 138; refine (leap_any _ _).mono ?_; rintro e w' ⟨rfl, rfl⟩)
    have e : lensC y = #[.int .i64 31, .int .i64 29, .int .i64 31, .int .i64 30, .int .i64 31, .int .i64 30, .int .i64 31, .int .i64 31, .int .i64 30, .int .i64 31, .int .i64 30, .int .i64 31] := by rw [lensC, HL.out]; rfl
    rw [e]
    exact ret_row (p := 2) (ty := 191) (g := w.heap.size) (t := 191) rfl rfl rfl ((Blk.new w _ _).alloc _) Tryz.underlying191 rfl (by kernel_rfl) ⟨rfl, ((Below.refl _ _).alloc (Nat.le_refl _) _).alloc (by simp) _⟩
  | false =>
    have HL := hide (leapI_f hb)
    go_enter Tryz.func90, Tryz.ntmps90
    go_wp2_with (go_at_call 138; refine (leap_any _ _).mono ?_; rintro e w' ⟨rfl, rfl⟩)
    have e : lensC y = #[.int .i64 31, .int .i64 28, .int .i64 31, .int .i64 30, .int .i64 31, .int .i64 30, .int .i64 31, .int .i64 31, .int .i64 30, .int .i64 31, .int .i64 30, .int .i64 31] := by rw [lensC, HL.out]; rfl
    rw [e]
    exact ret_row (p := 2) (ty := 191) (g := w.heap.size) (t := 191) rfl rfl rfl ((Blk.new w _ _).alloc _) Tryz.underlying191 rfl (by kernel_rfl) ⟨rfl, ((Below.refl _ _).alloc (Nat.le_refl _) _).alloc (by simp) _⟩

theorem ixl0 (y : Int) (w : World) : (Instr.index 191 (.agg (lensC y)) (.int .i64 0)).run Tryz.prog w = .ok (.int .i64 (31)) w := by kernel_rfl
theorem ixl1 (y : Int) (w : World) : (Instr.index 191 (.agg (lensC y)) (.int .i64 1)).run Tryz.prog w = .ok (.int .i64 (28 + leapI y)) w := by kernel_rfl
theorem ixl2 (y : Int) (w : World) : (Instr.index 191 (.agg (lensC y)) (.int .i64 2)).run Tryz.prog w = .ok (.int .i64 (31)) w := by kernel_rfl
theorem ixl3 (y : Int) (w : World) : (Instr.index 191 (.agg (lensC y)) (.int .i64 3)).run Tryz.prog w = .ok (.int .i64 (30)) w := by kernel_rfl
theorem ixl4 (y : Int) (w : World) : (Instr.index 191 (.agg (lensC y)) (.int .i64 4)).run Tryz.prog w = .ok (.int .i64 (31)) w := by kernel_rfl
theorem ixl5 (y : Int) (w : World) : (Instr.index 191 (.agg (lensC y)) (.int .i64 5)).run Tryz.prog w = .ok (.int .i64 (30)) w := by kernel_rfl
theorem ixl6 (y : Int) (w : World) : (Instr.index 191 (.agg (lensC y)) (.int .i64 6)).run Tryz.prog w = .ok (.int .i64 (31)) w := by kernel_rfl
theorem ixl7 (y : Int) (w : World) : (Instr.index 191 (.agg (lensC y)) (.int .i64 7)).run Tryz.prog w = .ok (.int .i64 (31)) w := by kernel_rfl
theorem ixl8 (y : Int) (w : World) : (Instr.index 191 (.agg (lensC y)) (.int .i64 8)).run Tryz.prog w = .ok (.int .i64 (30)) w := by kernel_rfl
theorem ixl9 (y : Int) (w : World) : (Instr.index 191 (.agg (lensC y)) (.int .i64 9)).run Tryz.prog w = .ok (.int .i64 (31)) w := by kernel_rfl
theorem ixl10 (y : Int) (w : World) : (Instr.index 191 (.agg (lensC y)) (.int .i64 10)).run Tryz.prog w = .ok (.int .i64 (30)) w := by kernel_rfl
theorem ixl11 (y : Int) (w : World) : (Instr.index 191 (.agg (lensC y)) (.int .i64 11)).run Tryz.prog w = .ok (.int .i64 (31)) w := by kernel_rfl
theorem index_lens (y m : Int) (h1 : 1 ≤ m) (h2 : m ≤ 12) (w : World) : (Instr.index 191 (.agg (lensC y)) (.int .i64 (m - 1))).run Tryz.prog w = .ok (.int .i64 (lenM y m)) w := by
  have hm : m = 1 ∨ m = 2 ∨ m = 3 ∨ m = 4 ∨ m = 5 ∨ m = 6 ∨ m = 7 ∨ m = 8 ∨ m = 9 ∨ m = 10 ∨ m = 11 ∨ m = 12 := by omega
  rcases hm with rfl | rfl | rfl | rfl | rfl | rfl | rfl | rfl | rfl | rfl | rfl | rfl
  · exact ixl0 y w
  · exact ixl1 y w
  · exact ixl2 y w
  · exact ixl3 y w
  · exact ixl4 y w
  · exact ixl5 y w
  · exact ixl6 y w
  · exact ixl7 y w
  · exact ixl8 y w
  · exact ixl9 y w
  · exact ixl10 y w
  · exact ixl11 y w

end Go.Proofs.YtmfohnchnbgbaaaGreatDoor

/- Days and their numbers: the program's functions. -/
namespace Go.Proofs.YtmfohnchnbgbaaaGreatDoor
open Go.RowKit
set_option maxRecDepth 100000

set_option maxHeartbeats 1000000 in
theorem right_any_Day (y m d : Int) (w : World) : Calls Tryz.prog 139 #[.agg #[.int .i64 y, .int .i64 m, .int .i64 d]] w fun e w' => e = .returned (.bool (rightB y m d)) ∧ Below w.heap.size w w' := by
  by_cases h : 1601 ≤ y ∧ y ≤ 2400 ∧ 1 ≤ m ∧ m ≤ 12
  · obtain ⟨h1, h2, h3, h4⟩ := h
    have hix := index_lens y m h3 h4
    have hlb := lenM_bd y m
    by_cases hd : 1 ≤ d
    · go_enter Tryz.func139, Tryz.ntmps139
      go_wp2_with fail
      have hwr : IntKind.i64.wrap (m - 1) = m - 1 := IntWalk.i64_in _ (by omega)
      go_region_held3 (fun w' => w'.cell? ⟨w.heap.size, 0, none⟩ = some (.int .i64 y) ∧ w'.cell? ⟨w.heap.size, 1, none⟩ = some (.int .i64 m) ∧ w'.cell? ⟨w.heap.size, 2, none⟩ = some (.int .i64 d)) (go_keep)
        (first | (go_at_call 90; refine (lengths_any _ _).mono ?_; rintro e w1 ⟨rfl, hb1⟩; have q0 : w1.cell? ⟨w.heap.size, 0, none⟩ = some (.int .i64 y) := kept hb1 (by simp); have q1 : w1.cell? ⟨w.heap.size, 1, none⟩ = some (.int .i64 m) := kept hb1 (by simp); have q2 : w1.cell? ⟨w.heap.size, 2, none⟩ = some (.int .i64 d) := kept hb1 (by simp)))
      clear hwr
      go_wp2_with fail
      go_ret
      exact ⟨ret_bool (by rw [Bool.eq_iff_iff]; simp [rightB]; omega), chain ((Below.refl _ _).alloc (Nat.le_refl _) _).drew hb1⟩
    · have hd' : decide (1 ≤ d) = false := by simp; omega
      go_enter Tryz.func139, Tryz.ntmps139
      go_wp2_with fail
      go_quiet (fail)
      go_wp2_with fail
      go_ret
      exact ⟨ret_bool (by rw [Bool.eq_iff_iff]; simp [rightB]; omega), bel_drewN ((Below.refl _ _).alloc (Nat.le_refl _) _) _⟩
  · go_enter Tryz.func139, Tryz.ntmps139
    have h' : y < 1601 ∨ (1601 ≤ y ∧ 2400 < y) ∨ (1601 ≤ y ∧ y ≤ 2400 ∧ m < 1) ∨ (1601 ≤ y ∧ y ≤ 2400 ∧ 1 ≤ m ∧ 12 < m) := by omega
    clear h
    rcases h' with h | ⟨h, h'⟩ | ⟨h, h', h''⟩ | ⟨h, h', h'', h'''⟩
    all_goals
      go_wp2_with fail
      go_ret
      exact ⟨ret_bool (by rw [Bool.eq_iff_iff]; simp [rightB]; omega), (Below.refl _ _).alloc (Nat.le_refl _) _⟩

theorem lengths_lit (y : Int) (w : World) : Calls Tryz.prog 90 #[.int .i64 y] w fun e w' => e = .returned (.agg #[.int .i64 31, .int .i64 (28 + leapI y), .int .i64 31, .int .i64 30, .int .i64 31, .int .i64 30, .int .i64 31, .int .i64 31, .int .i64 30, .int .i64 31, .int .i64 30, .int .i64 31]) ∧ Below w.heap.size w w' := lengths_any y w
theorem one12 (y : Int) : ∀ v : Value, v ∈ ([.int .i64 31, .int .i64 (28 + leapI y), .int .i64 31, .int .i64 30, .int .i64 31, .int .i64 30, .int .i64 31, .int .i64 31, .int .i64 30, .int .i64 31, .int .i64 30, .int .i64 31] : List Value) → v.oneCell' = true := by
  intro v hv
  simp at hv
  rcases hv with rfl | rfl | rfl | rfl | rfl | rfl | rfl | rfl | rfl | rfl | rfl | rfl <;> rfl
theorem inf12 (y : Int) : Option.map (fun x => x.size) (Tryz.prog.info? 191) = some ([.int .i64 31, .int .i64 (28 + leapI y), .int .i64 31, .int .i64 30, .int .i64 31, .int .i64 30, .int .i64 31, .int .i64 31, .int .i64 30, .int .i64 31, .int .i64 30, .int .i64 31] : List Value).length := by kernel_rfl
theorem setCells_box {W : World} {b b' o i : Nat} {vs : List Value} (h : b' ≠ b) : (W.setCells b o vs).cell? ⟨b', i, none⟩ = W.cell? ⟨b', i, none⟩ := World.cell?_setCells_out b vs o W _ (fun e => absurd e h)
theorem there12 (W : World) (t : TypeId) (y : Int) : (W.alloc (.cells #[.int .i64 0, .int .i64 0, .int .i64 0, .int .i64 0, .int .i64 0, .int .i64 0, .int .i64 0, .int .i64 0, .int .i64 0, .int .i64 0, .int .i64 0, .int .i64 0] t)).there W.heap.size 0 ([.int .i64 31, .int .i64 (28 + leapI y), .int .i64 31, .int .i64 30, .int .i64 31, .int .i64 30, .int .i64 31, .int .i64 31, .int .i64 30, .int .i64 31, .int .i64 30, .int .i64 31] : List Value).length := by
  intro j hj
  simp at hj
  have hb : Blk (W.alloc (.cells #[.int .i64 0, .int .i64 0, .int .i64 0, .int .i64 0, .int .i64 0, .int .i64 0, .int .i64 0, .int .i64 0, .int .i64 0, .int .i64 0, .int .i64 0, .int .i64 0] t)) W.heap.size t #[.int .i64 0, .int .i64 0, .int .i64 0, .int .i64 0, .int .i64 0, .int .i64 0, .int .i64 0, .int .i64 0, .int .i64 0, .int .i64 0, .int .i64 0, .int .i64 0] := Blk.new W t _
  rw [Nat.zero_add, hb.cell, hb.frozen]
  refine ⟨?_, rfl⟩
  simp; omega
theorem there12b {W w1 : World} {t : TypeId} {y : Int} (h : Below (W.alloc (.cells #[.int .i64 0, .int .i64 0, .int .i64 0, .int .i64 0, .int .i64 0, .int .i64 0, .int .i64 0, .int .i64 0, .int .i64 0, .int .i64 0, .int .i64 0, .int .i64 0] t)).heap.size (W.alloc (.cells #[.int .i64 0, .int .i64 0, .int .i64 0, .int .i64 0, .int .i64 0, .int .i64 0, .int .i64 0, .int .i64 0, .int .i64 0, .int .i64 0, .int .i64 0, .int .i64 0] t)) w1) : w1.there W.heap.size 0 ([.int .i64 31, .int .i64 (28 + leapI y), .int .i64 31, .int .i64 30, .int .i64 31, .int .i64 30, .int .i64 31, .int .i64 31, .int .i64 30, .int .i64 31, .int .i64 30, .int .i64 31] : List Value).length := by
  intro j hj
  have h0 := there12 W t y j hj
  rw [h.cell (p := ⟨W.heap.size, 0 + j, none⟩) (by simp), h.frozen (p := ⟨W.heap.size, 0 + j, none⟩) (by simp)]
  exact h0
theorem there12c {W w1 : World} {t : TypeId} {y : Int} (h : Below (W.alloc (.cells #[.int .i64 0, .int .i64 0, .int .i64 0, .int .i64 0, .int .i64 0, .int .i64 0, .int .i64 0, .int .i64 0, .int .i64 0, .int .i64 0, .int .i64 0, .int .i64 0] t)).drew.heap.size (W.alloc (.cells #[.int .i64 0, .int .i64 0, .int .i64 0, .int .i64 0, .int .i64 0, .int .i64 0, .int .i64 0, .int .i64 0, .int .i64 0, .int .i64 0, .int .i64 0, .int .i64 0] t)).drew w1) : w1.there W.heap.size 0 ([.int .i64 31, .int .i64 (28 + leapI y), .int .i64 31, .int .i64 30, .int .i64 31, .int .i64 30, .int .i64 31, .int .i64 31, .int .i64 30, .int .i64 31, .int .i64 30, .int .i64 31] : List Value).length := there12b (bel_undrew h)
theorem lens_at (y : Int) (k : Nat) (h : k < 12) : (lensC y)[k]? = some (.int .i64 (lenM y (k + 1))) := by
  have hk : k = 0 ∨ k = 1 ∨ k = 2 ∨ k = 3 ∨ k = 4 ∨ k = 5 ∨ k = 6 ∨ k = 7 ∨ k = 8 ∨ k = 9 ∨ k = 10 ∨ k = 11 := by omega
  rcases hk with rfl | rfl | rfl | rfl | rfl | rfl | rfl | rfl | rfl | rfl | rfl | rfl <;> simp [lensC, lenM]
def NumRel (w : World) (y m d : Int) (t4 t5 : Value) (wx : World) : Prop :=
  ∃ G, t4 = .pointer (some ⟨G, 0, none⟩) ∧ t5 = .int .i64 (aheadI y + d) ∧ Blk wx G 191 (lensC y) ∧ wx.cell? ⟨w.heap.size, 1, none⟩ = some (.int .i64 m) ∧ Below w.heap.size w wx

theorem bel_setCells {B g : Nat} {a : World} (hg : B ≤ g) : ∀ (vs : List Value) (o : Nat) (W : World), Below B a W → Below B a (W.setCells g o vs)
  | [], _, _, h => h
  | v :: vs, o, _, h => bel_setCells hg vs (o + 1) _ (h.setCell (p := ⟨g, o, none⟩) hg v)
theorem blk_setCells {g : Nat} {t : TypeId} : ∀ (vs : List Value) (o : Nat) (W : World) (cs : Array Value), Blk W g t cs → ∃ cs' : Array Value, Blk (W.setCells g o vs) g t cs' ∧ cs'.toList = cs.toList.take o ++ (vs.take (cs.size - o)) ++ cs.toList.drop (o + vs.length)
  | [], o, W, cs, h => ⟨cs, h, by simp⟩
  | v :: vs, o, W, cs, h => by
    obtain ⟨cs', h1, h2⟩ := blk_setCells vs (o + 1) _ _ (h.set_ o v)
    refine ⟨cs', h1, ?_⟩
    rw [h2]
    simp only [Array.toList_setIfInBounds, Array.size_setIfInBounds]
    by_cases ho : o < cs.size
    · rw [List.take_set, List.drop_set_of_lt (by omega), List.take_succ_eq_append_getElem (by simpa using ho), List.set_append_right _ _ (by simp; omega)]
      have e : cs.size - o = (cs.size - (o + 1)) + 1 := by omega
      rw [e, List.take_succ_cons]
      simp [Nat.min_eq_left (Nat.le_of_lt ho), Nat.add_comm, Nat.add_left_comm]
    · rw [List.set_eq_of_length_le (by simp; omega)]
      have e : cs.size - o = 0 := by omega
      have e' : cs.size - (o + 1) = 0 := by omega
      rw [e, e']
      simp only [List.take_zero, List.append_nil, List.length_cons]
      rw [List.take_of_length_le (by simp; omega), List.take_of_length_le (by simp; omega), List.drop_eq_nil_of_le (by simp; omega), List.drop_eq_nil_of_le (by simp; omega)]
theorem blk_all {g : Nat} {t : TypeId} {W : World} {cs : Array Value} {vs : List Value} (h : Blk W g t cs) (hl : vs.length = cs.size) : Blk (W.setCells g 0 vs) g t vs.toArray := by
  obtain ⟨cs', h1, h2⟩ := blk_setCells vs 0 W cs h
  have e : cs' = vs.toArray := by
    apply Array.toList_inj.1
    rw [h2]
    simp only [List.take_zero, List.nil_append, Nat.sub_zero, Nat.zero_add]
    rw [List.take_of_length_le (by omega), List.drop_eq_nil_of_le (by simp; omega)]
    simp
  rw [← e]
  exact h1
theorem numRelA {w w1 : World} {y m d : Int} (hb : Below w.heap.size w w1) (hc : w1.cell? ⟨w.heap.size, 1, none⟩ = some (.int .i64 m)) (hz : w.heap.size < w1.heap.size) :
    NumRel w y m d (.pointer (some ⟨w1.heap.size, 0, none⟩)) (.int .i64 (aheadI y + d)) ((w1.alloc (.cells #[.int .i64 0, .int .i64 0, .int .i64 0, .int .i64 0, .int .i64 0, .int .i64 0, .int .i64 0, .int .i64 0, .int .i64 0, .int .i64 0, .int .i64 0, .int .i64 0] 191)).setCells w1.heap.size 0 [.int .i64 31, .int .i64 (28 + leapI y), .int .i64 31, .int .i64 30, .int .i64 31, .int .i64 30, .int .i64 31, .int .i64 31, .int .i64 30, .int .i64 31, .int .i64 30, .int .i64 31]) :=
  ⟨_, rfl, rfl, blk_all (Blk.new w1 _ _) rfl, by rw [setCells_box (by omega), World.cell?_alloc_past _ _ _ hz, hc], bel_setCells (by omega) _ _ _ (hb.alloc hb.size _)⟩
theorem numRelB {w w1 : World} {y m d : Int} {g : Nat} (hg : w.heap.size < g) (hz : Blk w1 g 191 #[.int .i64 0, .int .i64 0, .int .i64 0, .int .i64 0, .int .i64 0, .int .i64 0, .int .i64 0, .int .i64 0, .int .i64 0, .int .i64 0, .int .i64 0, .int .i64 0]) (hb : Below w.heap.size w w1) (hc : w1.cell? ⟨w.heap.size, 1, none⟩ = some (.int .i64 m)) :
    NumRel w y m d (.pointer (some ⟨g, 0, none⟩)) (.int .i64 (aheadI y + d)) (w1.setCells g 0 [.int .i64 31, .int .i64 (28 + leapI y), .int .i64 31, .int .i64 30, .int .i64 31, .int .i64 30, .int .i64 31, .int .i64 31, .int .i64 30, .int .i64 31, .int .i64 30, .int .i64 31]) :=
  ⟨_, rfl, rfl, blk_all hz rfl, by rw [setCells_box (by omega), hc], bel_setCells (by omega) _ _ _ hb⟩

set_option maxHeartbeats 4000000 in
theorem number_yes (y m d : Int) (w : World) (hr : rightB y m d = true) : Calls Tryz.prog 91 #[.agg #[.int .i64 y, .int .i64 m, .int .i64 d]] w fun e w' => e = .returned (.tuple #[.int .i64 (numI y m d), .int .i64 0]) ∧ Below w.heap.size w w' := by
  have hr' := hr
  simp only [rightB, decide_eq_true_eq] at hr'
  obtain ⟨h1, h2, h3, h4, h5, h6⟩ := hr'
  have hlb := lenM_bd y m
  have hab := ahead_bd y h1 (by omega)
  have HR := hide hr
  clear hr
  go_enter Tryz.func91, Tryz.ntmps91
  go_wp2_with fail
  refine (right_any_Day _ _ _ _).mono ?_
  rw [HR.out]
  rintro e w0 ⟨rfl, hb0⟩
  have k0 : w0.cell? ⟨w.heap.size, 0, none⟩ = some (.int .i64 y) := kept hb0 (by simp)
  have k1 : w0.cell? ⟨w.heap.size, 1, none⟩ = some (.int .i64 m) := kept hb0 (by simp)
  have k2 : w0.cell? ⟨w.heap.size, 2, none⟩ = some (.int .i64 d) := kept hb0 (by simp)
  have hz0 : w.heap.size < w0.heap.size := block_lt_of_cell k0
  have b0 := chain1 hb0
  clear hb0
  go_wp2_with fail
  go_cut [4, 5] (fun t4 t5 wx => NumRel w y m d t4 t5 wx)
  case first =>
    have hwr : IntKind.i64.wrap (aheadI y + d) = aheadI y + d := IntWalk.i64_in _ (by omega)
    have hone := one12 y
    have hinf := inf12 y
    go_region_held3 (fun w' => w'.cell? ⟨w.heap.size, 0, none⟩ = some (.int .i64 y) ∧ w'.cell? ⟨w.heap.size, 1, none⟩ = some (.int .i64 m) ∧ w'.cell? ⟨w.heap.size, 2, none⟩ = some (.int .i64 d))
      (first | go_keep | (refine ⟨?_, ?_, ?_⟩ <;> (rw [setCells_box (by first | omega | (simp; omega))]; first | assumption | (simp [*]; done))))
      (first
        | (go_at_call 90
           refine (lengths_lit _ _).mono ?_
           rintro e w1 ⟨rfl, hb1⟩
           have q0 : w1.cell? ⟨w.heap.size, 0, none⟩ = some (.int .i64 y) := kept hb1 (by simp [*])
           have q1 : w1.cell? ⟨w.heap.size, 1, none⟩ = some (.int .i64 m) := kept hb1 (by simp [*])
           have q2 : w1.cell? ⟨w.heap.size, 2, none⟩ = some (.int .i64 d) := kept hb1 (by simp [*])
           have hz1 : w.heap.size < w1.heap.size := block_lt_of_cell q0
           have ht1 := there12 w1 191 y
           try have gz := there12c (y := y) hb1)
        | (go_at_call 23; refine (ahead_any _ (by omega) (by omega) _).mono ?_; rintro e w' ⟨rfl, rfl⟩))
    all_goals
      clear hwr hone hinf
      go_wp2_with fail
      go_meet
      first
        | with_reducible exact numRelA (chain b0.drew hb1) q1 hz1
        | with_reducible exact numRelB hz0 ((Blk.new w0 _ _).drew.below hb1 (by simp)) (chain (b0.alloc b0.size _).drew hb1) q1
  case rest =>
    obtain ⟨G, rfl, rfl, hG, hc1, hb⟩ := hcut
    go_wp2_with fail
    go_loop [5, 22] (fun t i => ∃ k : Nat, (k : Int) ≤ m - 1 ∧ i = .int .i64 k ∧ t = .int .i64 (aheadI y + d + cumM y (k + 1))) (fun _ i => (m - intOf i).toNat)
    case atStart => exact ⟨0, by omega, rfl, by simp [cumM]⟩
    case round =>
      obtain ⟨k, hk, rfl, rfl⟩ := hrel
      have hcb := cum_bd y (k + 1) (by omega)
      by_cases hlt : (k : Int) < m - 1
      · have hcs := hide (cumM_succ y (k + 1) (by omega) (by omega))
        have hcell : (lensC y)[k]? = some (.int .i64 (lenM y (k + 1))) := lens_at y k (by omega)
        have hce := hG.cell k
        rw [hcell] at hce
        have hlk := lenM_bd y (k + 1)
        clear hcell
        go_wp2_with fail
        go_round
        case rel => exact ⟨k + 1, by omega, by go_num, by have := hcs.out; go_num⟩
        case measure => simp [intOf]; omega
      · obtain rfl : m = k + 1 := by omega
        go_wp2_with fail
        go_ret2
        exact ⟨by rw [numI, show aheadI y + cumM y (↑k + 1) + d = aheadI y + d + cumM y (↑k + 1) by omega]; rfl, hb⟩

theorem first_any (y : Int) (w : World) : Calls Tryz.prog 6 #[.int .i64 y] w fun e w' => e = .returned (.tuple (if 1601 ≤ y ∧ y ≤ 2401 then #[.int .i64 (aheadI y + 1), .int .i64 0] else #[.int .i64 0, .int .i64 3])) ∧ w = w' := by
  by_cases h : 1601 ≤ y ∧ y ≤ 2401
  · obtain ⟨h1, h2⟩ := h
    have hb : 0 ≤ aheadI y ∧ aheadI y ≤ 300000 := by unfold aheadI; omega
    go_enter Tryz.func6, Tryz.ntmps6
    go_wp2_with (go_at_call 23; refine (ahead_any _ (by omega) (by omega) _).mono ?_; rintro e w' ⟨rfl, rfl⟩)
    go_ret2
    exact ⟨rfl, rfl⟩
  · have h' : y < 1601 ∨ 2401 < y := by omega
    have hh := hide h
    clear h
    rcases h' with h | h
    all_goals
      go_enter Tryz.func6, Tryz.ntmps6
      go_wp2_with fail
      go_ret2
      exact ⟨rfl, rfl⟩
end Go.Proofs.YtmfohnchnbgbaaaGreatDoor

/- The calendar's day of a number, and days that are shifted: the program's functions. -/
namespace Go.Proofs.YtmfohnchnbgbaaaGreatDoor
open Go.RowKit
set_option maxRecDepth 100000

set_option maxHeartbeats 1000000 in
theorem number_no (y m d : Int) (w : World) (hr : rightB y m d = false) : Calls Tryz.prog 91 #[.agg #[.int .i64 y, .int .i64 m, .int .i64 d]] w fun e w' => e = .returned (.tuple #[.int .i64 0, .int .i64 3]) ∧ Below w.heap.size w w' := by
  have HR := hide hr
  clear hr
  go_enter Tryz.func91, Tryz.ntmps91
  go_wp2_with fail
  refine (right_any_Day _ _ _ _).mono ?_
  rw [HR.out]
  rintro e w0 ⟨rfl, hb0⟩
  go_wp2_with fail
  go_ret2
  exact ⟨rfl, chain1 hb0⟩

def zero3 : Array Value := #[.int .i64 0, .int .i64 0, .int .i64 0]
theorem set3 {w : World} {g : Nat} {t : TypeId} (h : Blk w g t zero3) (u0 u1 u2 : Value) :
    Blk (((w.setCell ⟨g, 0, none⟩ u0).setCell ⟨g, 1, none⟩ u1).setCell ⟨g, 2, none⟩ u2) g t #[u0, u1, u2] := by
  have h3 := ((h.set_ 0 u0).set_ 1 u1).set_ 2 u2
  simpa [zero3] using h3

theorem index_lens' (y : Int) (k : Nat) (h : k < 12) (w : World) : (Instr.index 191 (.agg (lensC y)) (.int .i64 k)).run Tryz.prog w = .ok (.int .i64 (lenM y (k + 1))) w := by
  have := index_lens y (k + 1) (by omega) (by omega) w
  rwa [show (k : Int) + 1 - 1 = k by omega] at this

set_option maxHeartbeats 2000000 in
theorem of_yes_Day (n : Int) (w : World) (h1 : 1 ≤ n) (h2 : n ≤ 292194) : Calls Tryz.prog 89 #[.int .i64 n] w (OfPost n w) := by
  obtain ⟨hy1, hy2, hy3, hy4⟩ := yearI_ok n h1 h2
  obtain ⟨y, hy⟩ : ∃ y, yearI n = y := ⟨_, rfl⟩
  rw [hy] at hy1 hy2 hy3 hy4
  have HY := hide hy
  clear hy
  go_enter Tryz.func89, Tryz.ntmps89
  go_wp2_with fail
  refine (year_val _ _ h1 h2).mono ?_
  rw [HY.out]
  rintro e w' ⟨rfl, rfl⟩
  have hls := leap_of_ahead y
  have hab := ahead_bd y hy1 (by omega)
  have hl01 := leap_01 y
  have HLS := hide hls
  clear hls
  go_wp2_with (go_at_call 23; refine (ahead_any _ (by omega) (by omega) _).mono ?_; rintro e w' ⟨rfl, rfl⟩)
  refine (lengths_any _ _).mono ?_
  rintro e w1 ⟨rfl, hb1⟩
  have hz := (Blk.new' (w := w) (t := 188) (cs := zero3) (g := w.heap.size) rfl).alloc (.cells #[.int .i64 y, .int .i64 1, .int .i64 (n - aheadI y)] 188) |>.below hb1 (by simp; omega)
  have hc := (Blk.new' (w := w.alloc (.cells zero3 188)) (t := 188) (cs := #[.int .i64 y, .int .i64 1, .int .i64 (n - aheadI y)]) (g := w.heap.size + 1) (by simp)) |>.below hb1 (by simp)
  have hb := chain (((Below.refl w.heap.size w).alloc (Nat.le_refl _) _).alloc (by simp) _) hb1
  clear hb1
  go_wp2_with fail
  go_loopw [26, 8] (fun i t wr => ∃ k : Nat, k < 12 ∧ i = .int .i64 k ∧ 1 ≤ n - aheadI y - cumM y (k + 1) ∧ Blk wr w.heap.size 188 zero3 ∧ Blk wr (w.heap.size + 1) 188 #[.int .i64 y, .int .i64 (k + 1), .int .i64 (n - aheadI y - cumM y (k + 1))] ∧ Below w.heap.size w wr) (fun i _ _ => 12 - (intOf i).toNat)
  case atStart => exact ⟨0, by omega, rfl, by simp [cumM]; omega, hz, by simpa [cumM] using hc, hb⟩
  case round =>
    clear hz hc hb
    obtain ⟨k, hk, rfl, hd1, hz, hc, hb⟩ := hrel
    have hcb := cum_bd y (k + 1) (by omega)
    have hix := index_lens' y k hk
    have hlk := lenM_bd y (k + 1)
    have hcs := cumM_succ y (k + 1) (by omega) (by omega)
    have c0 := hc.cell 0
    have c1 := hc.cell 1
    have c2 := hc.cell 2
    have f1 := hc.frozen 1
    have f2 := hc.frozen 2
    simp at c0 c1 c2
    by_cases hbr : n - aheadI y - cumM y (k + 1) ≤ lenM y (k + 1)
    · have z0 := hz.cell 0
      have z1 := hz.cell 1
      have z2 := hz.cell 2
      have g0 := hz.frozen 0
      have g1 := hz.frozen 1
      have g2 := hz.frozen 2
      simp [zero3] at z0 z1 z2
      have HCS := hide hcs
      clear hcs
      go_wp2_with fail
      refine ret_row2 (p := 2) (u := 3) (ty := 188) (g := w.heap.size) (x := .int .i64 0) rfl rfl rfl rfl (set3 hz _ _ _) Tryz.underlying188 rfl (by kernel_rfl) ⟨y, k + 1, n - aheadI y - cumM y (k + 1), rfl, ?_, ?_, ((hb.setCell (by simp) _).setCell (by simp) _).setCell (by simp) _⟩
      · simp only [rightB, decide_eq_true_eq]
        omega
      · simp only [numI]
        omega
    · have hk11 : k < 11 := by
        have hls := HLS.out
        rcases Nat.lt_or_ge k 11 with h | h
        · exact h
        · obtain rfl : k = 11 := by omega
          have e1 : cumM y ((11 : Nat) + 1) = 334 + leapI y := by simp [cumM]
          have e2 : lenM y ((11 : Nat) + 1) = 31 := by simp [lenM]
          rw [e1, e2] at hbr
          omega
      have HCS := hide hcs
      clear hcs
      go_wp2_with fail
      go_roundw
      case rel =>
        refine ⟨k + 1, by omega, by go_num, ?_, hz.far (by simp) _ |>.far (by simp) _, ?_, (hb.setCell (by simp) _).setCell (by simp) _⟩
        · have := HCS.out
          rw [show ((k + 1 : Nat) : Int) + 1 = k + 1 + 1 by omega]
          omega
        · have h6 := (hc.set_ 2 (.int .i64 (n - aheadI y - cumM y (k + 1) - lenM y (k + 1)))).set_ 1 (.int .i64 (k + 1 + 1))
          simp at h6
          rw [show ((k + 1 : Nat) : Int) + 1 = k + 1 + 1 by omega, HCS.out, show n - aheadI y - (cumM y (↑k + 1) + lenM y (↑k + 1)) = n - aheadI y - cumM y (k + 1) - lenM y (k + 1) by omega]
          exact h6
      case measure => simp [intOf]; omega

set_option maxHeartbeats 1000000 in
theorem of_no_Day (n : Int) (w : World) (h : ¬(1 ≤ n ∧ n ≤ 292194)) : Calls Tryz.prog 89 #[.int .i64 n] w fun e w' => e = .returned (.tuple #[.agg #[.int .i64 0, .int .i64 0, .int .i64 0], .int .i64 3]) ∧ Below w.heap.size w w' := by
  have H := hide h
  clear h
  go_enter Tryz.func89, Tryz.ntmps89
  go_wp2_with fail
  refine (year_bad _ _ H.out).mono ?_
  rintro e w' ⟨rfl, rfl⟩
  go_wp2_with fail
  refine ret_row2 (p := 2) (u := 3) (ty := 188) (g := w.heap.size) (x := .int .i64 3) rfl rfl rfl rfl (Blk.new w _ _) Tryz.underlying188 rfl (by kernel_rfl) ⟨rfl, (Below.refl _ _).alloc (Nat.le_refl _) _⟩
end Go.Proofs.YtmfohnchnbgbaaaGreatDoor

/- A bill of two instalments. -/
namespace Go.Proofs.YtmfohnchnbgbaaaGreatDoor
open Go.RowKit Go.Lib

theorem civ_one (y m d : Int) (hr : rightB y m d = true) (hn : numI y m d = 1) : y = 1601 ∧ m = 1 ∧ d = 1 := by
  have h : 1601 ≤ y ∧ y ≤ 2400 ∧ 1 ≤ m ∧ m ≤ 12 ∧ 1 ≤ d := by
    have := hr
    unfold rightB at this
    simp only [decide_eq_true_eq] at this
    omega
  have hl := leap_01 y
  have ha : 0 ≤ aheadI y ∧ (1602 ≤ y → 365 ≤ aheadI y) := by unfold aheadI; omega
  have hm : m = 1 ∨ m = 2 ∨ m = 3 ∨ m = 4 ∨ m = 5 ∨ m = 6 ∨ m = 7 ∨ m = 8 ∨ m = 9 ∨ m = 10 ∨ m = 11 ∨ m = 12 := by omega
  have hc : 0 ≤ cumM y m ∧ (2 ≤ m → 31 ≤ cumM y m) := by
    rcases hm with rfl | rfl | rfl | rfl | rfl | rfl | rfl | rfl | rfl | rfl | rfl | rfl <;> simp [cumM] <;> omega
  unfold numI at hn
  clear hm
  have hy2 : y = 1601 := by
    rcases Int.lt_or_le y 1602 with h2 | h2
    · omega
    · have := ha.2 h2; omega
  have hm2 : m = 1 := by
    rcases Int.lt_or_le m 2 with h2 | h2
    · omega
    · have := hc.2 h2; omega
  subst hy2 hm2
  have e1 : aheadI 1601 = 0 := by decide
  have e2 : cumM 1601 1 = 0 := by decide
  rw [e1, e2] at hn
  exact ⟨rfl, rfl, by omega⟩
set_option linter.unusedSimpArgs false in
set_option maxRecDepth 100000 in
set_option maxHeartbeats 4000000 in
theorem shift_one (s M v : Int) (w : World) (hs : s = 0 ∧ M = 1 ∧ v = 1 ∨ s = 6 ∧ M = 7 ∧ v = 182) : Calls Tryz.prog 48 #[.int .i64 1, .int .i64 s] w fun e w' => e = .returned (.tuple #[.int .i64 v, .int .i64 0]) ∧ Below w.heap.size w w' := by
  have hMN : numI 1601 M 1 = v ∧ rightB 1601 M 1 = true := by rcases hs with ⟨rfl, rfl, rfl⟩ | ⟨rfl, rfl, rfl⟩ <;> exact ⟨by decide, by decide⟩
  have hlM := lenM_bd 1601 M
  have hsM : M = s + 1 ∧ (0 ≤ s ∧ s ≤ 6) := by omega
  have HMN := hide hMN
  clear hMN hs
  go_enter Tryz.func48, Tryz.ntmps48
  go_wp2_with fail
  refine (of_yes_Day _ _ (by omega) (by omega)).mono ?_
  rintro e w1 ⟨y, m, d, rfl, hr, hn, hb⟩
  obtain ⟨rfl, rfl, rfl⟩ := civ_one y m d hr hn
  have hm1 : ¬ (s : Int) < 0 := by omega
  have hq1 : s.tdiv 12 = 0 := by rw [Int.tdiv_eq_ediv_of_nonneg (by omega)]; omega
  have hq2 : s.tmod 12 = s := by rw [Int.tmod_eq_emod_of_nonneg (by omega)]; omega
  obtain ⟨hM, hs0, hs6⟩ := hsM
  have hM' : s + 1 = M := hM.symm
  have hM1 : M - 1 = s := by omega
  have hws : IntKind.i64.wrap s = s := IntWalk.i64_in _ (by omega)
  have hix : ∀ W, (Instr.index 191 (.agg (lensC 1601)) (.int .i64 s)).run Tryz.prog W = .ok (.int .i64 (lenM 1601 M)) W := fun W => by
    have h := index_lens 1601 M (by omega) (by omega) W
    rwa [hM1] at h
  have HIX := hide hix
  have HLM := hide hlM
  clear hr hn hM hix
  go_upto_region 9 with fail
  obtain ⟨w2, hw2⟩ : ∃ W, w1.alloc (.cells #[.int .i64 1601, .int .i64 M, .int .i64 1] 188) = W := ⟨_, rfl⟩
  have hB2 : Blk w2 w1.heap.size 188 #[.int .i64 1601, .int .i64 M, .int .i64 1] := by rw [← hw2]; exact Blk.new _ _ _
  have H2 := hide (show Below w.heap.size w w2 by rw [← hw2]; exact hb.alloc hb.size _)
  rw [hw2]
  obtain ⟨WD, hWD⟩ : ∃ W, w2.drew = W := ⟨_, rfl⟩
  have hBD : Blk WD w1.heap.size 188 #[.int .i64 1601, .int .i64 M, .int .i64 1] := by rw [← hWD]; exact hB2.drew
  have HD := hide (show Below w.heap.size w WD by rw [← hWD]; exact H2.out.drew)
  have hS0 : (fun W : World => W.cell? ⟨w1.heap.size, 0, none⟩ = some (.int .i64 1601) ∧ W.cell? ⟨w1.heap.size, 1, none⟩ = some (.int .i64 M) ∧ W.cell? ⟨w1.heap.size, 2, none⟩ = some (.int .i64 1)) WD := ⟨hBD.cell 0, hBD.cell 1, hBD.cell 2⟩
  simp only at hS0
  have HBD := hide hBD
  have hix := HIX.out
  have hbs := hb.size
  clear hb hw2 hB2 hBD
  refine wp_region_T (fun W => W.cell? ⟨w1.heap.size, 0, none⟩ = some (.int .i64 1601) ∧ W.cell? ⟨w1.heap.size, 1, none⟩ = some (.int .i64 M) ∧ W.cell? ⟨w1.heap.size, 2, none⟩ = some (.int .i64 1)) [0, 2, 5, 10, 11] rfl (by kernel_rfl) ?_
  rw [hWD]
  clear hWD
  refine wpAnyT_take0 (i := 0) (v := ?_) rfl (by kernel_rfl) (by kernel_rfl) (by kernel_rfl) (by kernel_rfl) (fun _ _ _ h => h) (Or.inl ⟨by rfl, ?_⟩) ?_
  rotate_left
  · intro W hSW
    go_simp
    try with_reducible rfl
  simp only [Act.put, List.setIfInBounds_toArray, List.set_cons_zero, List.set_cons_succ]
  refine wpAnyT_take0 (i := 2) (v := ?_) rfl (by kernel_rfl) (by kernel_rfl) (by kernel_rfl) (by kernel_rfl) (fun _ _ _ h => h) (Or.inl ⟨by rfl, ?_⟩) ?_
  rotate_left
  · intro W hSW
    go_simp
    try with_reducible rfl
  simp only [Act.put, List.setIfInBounds_toArray, List.set_cons_zero, List.set_cons_succ]
  refine wpAnyT_take0 (i := 5) (v := ?_) rfl (by kernel_rfl) (by kernel_rfl) (by kernel_rfl) (by kernel_rfl) (fun _ _ _ h => h) (Or.inl ⟨by rfl, ?_⟩) ?_
  rotate_left
  · intro W hSW
    go_simp
    try with_reducible rfl
  simp only [Act.put, List.setIfInBounds_toArray, List.set_cons_zero, List.set_cons_succ]
  refine wpAnyT_take (i := 1) (v := ?_) rfl (by kernel_rfl) (by kernel_rfl) (by kernel_rfl) (by kernel_rfl) (fun _ _ _ h => h) (Or.inl ⟨by rfl, ?_⟩) hS0 ?_
  rotate_left
  · intro W hSW
    obtain ⟨hs0, hs1⟩ := hSW
    go_simp
    try with_reducible rfl
  simp only [Act.put, List.setIfInBounds_toArray, List.set_cons_zero, List.set_cons_succ]
  refine wpAnyT_take (i := 3) (v := ?_) rfl (by kernel_rfl) (by kernel_rfl) (by kernel_rfl) (by kernel_rfl) (fun _ _ _ h => h) (Or.inl ⟨by rfl, ?_⟩) hS0 ?_
  rotate_left
  · intro W hSW
    obtain ⟨hs0, hs1⟩ := hSW
    go_simp
    try with_reducible rfl
  simp only [Act.put, List.setIfInBounds_toArray, List.set_cons_zero, List.set_cons_succ]
  refine wpAnyT_take (i := 6) (v := ?_) rfl (by kernel_rfl) (by kernel_rfl) (by kernel_rfl) (by kernel_rfl) (fun _ _ _ h => h) (Or.inl ⟨by rfl, ?_⟩) hS0 ?_
  rotate_left
  · intro W hSW
    obtain ⟨hs0, hs1⟩ := hSW
    go_simp
    try with_reducible rfl
  simp only [Act.put, List.setIfInBounds_toArray, List.set_cons_zero, List.set_cons_succ]
  refine wpAnyT_take (i := 7) (v := ?_) rfl (by kernel_rfl) (by kernel_rfl) (by kernel_rfl) (by kernel_rfl) (fun _ _ _ h => h) (Or.inl ⟨by rfl, ?_⟩) hS0 ?_
  rotate_left
  · intro W hSW
    obtain ⟨hs0, hs1⟩ := hSW
    go_simp
    try with_reducible rfl
  simp only [Act.put, List.setIfInBounds_toArray, List.set_cons_zero, List.set_cons_succ]
  refine wpAnyT_ready (rs := [4]) (by kernel_rfl) (by simp) ?_
  refine AllReadyT.cons rfl (fun K hK => ?_) ?_
  · go_simp
    refine (lengths_any _ _).mono ?_
    rintro e w3 ⟨rfl, hb3⟩
    have hB3 := HBD.out.below hb3 HBD.out.lt
    have H3 := hide (chain HD.out hb3)
    have hS3 : (fun W : World => W.cell? ⟨w1.heap.size, 0, none⟩ = some (.int .i64 1601) ∧ W.cell? ⟨w1.heap.size, 1, none⟩ = some (.int .i64 M) ∧ W.cell? ⟨w1.heap.size, 2, none⟩ = some (.int .i64 1)) w3 := ⟨hB3.cell 0, hB3.cell 1, hB3.cell 2⟩
    simp only at hS3
    have v2 := hB3.frozen 2
    have x2 := hS3.2.2
    have HB3 := hide hB3
    have hmin : min 1 (lenM 1601 M) = 1 := by have := HLM.out; omega
    refine hK.out _ _ (fun _ => hS3) ?_
    try simp only [Act.put, List.setIfInBounds_toArray, List.set_cons_zero, List.set_cons_succ]
    clear hK K hb3 hB3 hS0
    refine wpAnyT_take (i := 8) (v := ?_) rfl (by kernel_rfl) (by kernel_rfl) (by kernel_rfl) (by kernel_rfl) (fun _ _ _ h => h) (Or.inl ⟨by rfl, ?_⟩) hS3 ?_
    rotate_left
    · intro W hSW
      obtain ⟨hs0, hs1⟩ := hSW
      go_simp
      try with_reducible rfl
    simp only [Act.put, List.setIfInBounds_toArray, List.set_cons_zero, List.set_cons_succ]
    refine wpAnyT_take (i := 9) (v := ?_) rfl (by kernel_rfl) (by kernel_rfl) (by kernel_rfl) (by kernel_rfl) (fun _ _ _ h => h) (Or.inl ⟨by rfl, ?_⟩) hS3 ?_
    rotate_left
    · intro W hSW
      obtain ⟨hs0, hs1⟩ := hSW
      go_simp
      try with_reducible rfl
    simp only [Act.put, List.setIfInBounds_toArray, List.set_cons_zero, List.set_cons_succ]
    refine wpAnyT_take0 (i := 10) (v := ?_) rfl (by kernel_rfl) (by kernel_rfl) (by kernel_rfl) (by kernel_rfl) (fun _ _ _ h => h) (Or.inl ⟨by rfl, ?_⟩) ?_
    rotate_left
    · intro W hSW
      go_simp
      try with_reducible rfl
    simp only [Act.put, List.setIfInBounds_toArray, List.set_cons_zero, List.set_cons_succ]
    refine wpAnyT_ready (rs := [11]) (by kernel_rfl) (by simp) ?_
    refine AllReadyT.cons rfl (fun K hK => ?_) ?_
    · go_simp
      refine hK.out _ _ (fun h => by cases h) ?_
      try simp only [Act.put, List.setIfInBounds_toArray, List.set_cons_zero, List.set_cons_succ]
      clear hK K
      refine wpAnyT_done (by kernel_rfl) ?_ _
      have hB4 := HB3.out.set_ 2 (.int .i64 1)
      simp at hB4
      have H4 := hide (H3.out.setCell (p := ⟨w1.heap.size, 2, none⟩) hbs (.int .i64 1))
      obtain ⟨w4, hw4⟩ : ∃ W, w3.setCell ⟨w1.heap.size, 2, none⟩ (.int .i64 1) = W := ⟨_, rfl⟩
      rw [hw4] at hB4 H4 ⊢
      have q0 := hB4.cell 0
      have q1 := hB4.cell 1
      have q2 := hB4.cell 2
      simp at q0 q1 q2
      clear hw4 hS3 x2 v2 hix
      go_wp2_with fail
      refine (number_yes _ _ _ _ HMN.out.2).mono ?_
      rintro e w5 ⟨rfl, hb5⟩
      have H5 := hide (chain H4.out hb5)
      clear hb5 q0 q1 q2
      go_wp2_with fail
      go_ret2
      rw [HMN.out.1]
      exact ⟨rfl, H5.out⟩
    exact AllReadyT.nil
  exact AllReadyT.nil

def encBl (x : Int × Int) : List Value := [.int .i64 x.1, .int .i64 x.2, .int .i64 0]
theorem elBl : ElT Tryz.prog 78 83 3 24 := ElT.mk' (z := .agg #[.int .i64 0, .int .i64 0, .int .i64 0]) Tryz.underlying78 (by kernel_rfl) rfl (by omega)
theorem okBl (l : List (Int × Int)) : RowsOk 3 (l.map encBl) := by
  intro r hr
  obtain ⟨x, _, rfl⟩ := List.mem_map.1 hr
  exact ⟨rfl, fun u hu => by simp [encBl] at hu; rcases hu with rfl | rfl | rfl <;> rfl⟩
def planL (k : Nat) : List (Int × Int) := (List.range k).map fun j => (if j = 0 then 1 else 182, 5000)
theorem planL_succ (k : Nat) : planL (k + 1) = planL k ++ [(if k = 0 then 1 else 182, 5000)] := by simp [planL, List.range_succ]
def PlanP (w : World) (e : Ending) (w' : World) : Prop := ∃ A cap, e = .returned (.tuple #[.slice A 2 cap, .int .i64 0]) ∧ SV w' 3 A 2 cap (([(1, 5000), (182, 5000)] : List (Int × Int)).map encBl) ∧ Below w.heap.size w w'

set_option maxRecDepth 100000 in
set_option maxHeartbeats 4000000 in
theorem plan_any (w : World) : Calls Tryz.prog 21 #[.int .i64 10000, .agg #[.int .i64 1, .int .i64 101], .int .i64 2] w (PlanP w) := by
  obtain ⟨w1, hw1⟩ : ∃ W, w.alloc (.cells #[.int .i64 1, .int .i64 101] 56) = W := ⟨_, rfl⟩
  have hB1 : Blk w1 w.heap.size 56 #[.int .i64 1, .int .i64 101] := by rw [← hw1]; exact Blk.new _ _ _
  have hb1 : Below w.heap.size w w1 := by rw [← hw1]; exact (Below.refl _ _).alloc (Nat.le_refl _) _
  have HB1 := hide hB1
  have H1 := hide hb1
  have HW1 := hide hw1
  obtain ⟨w2, hw2⟩ : ∃ W, w1.alloc (.cells #[.int .i64 1, .int .i64 2, .int .i64 4, .int .i64 12] 3) = W := ⟨_, rfl⟩
  have hs2 : SV w2 1 (some ⟨w1.heap.size, 0, none⟩) 4 4 ([1, 2, 4, 12].map encI) := by
    refine ⟨sl_ints (l := [1, 2, 4, 12]) (e := 3) (cs := #[.int .i64 1, .int .i64 2, .int .i64 4, .int .i64 12]) ?_ rfl, rfl, by omega, by simp [maxLen], fun h => by cases h⟩
    rw [← hw2]; exact Blk.new _ _ _
  have HC := hide (contains_yes _ _ _ 1 _ 2 _ hs2 rfl (by omega))
  have hb2 : Below w1.heap.size w1 w2 := by rw [← hw2]; exact (Below.refl _ _).alloc (Nat.le_refl _) _
  have H2 := hide (chain hb1 hb2)
  have HB2 := hide (hB1.below hb2 hB1.lt)
  have HW2 := hide hw2
  clear hB1 hb1 hw1 hs2 hb2 hw2
  go_enter Tryz.func21, Tryz.ntmps21
  go_upto_region 1 with fail
  rw [show w.alloc (.cells #[.int .i64 1, .int .i64 101] 56) = w1 from HW1.out]
  go_wp2_with fail
  rw [show w1.alloc (.cells #[.int .i64 1, .int .i64 2, .int .i64 4, .int .i64 12] 3) = w2 from HW2.out]
  refine HC.out.mono ?_
  rintro e w3 ⟨rfl, h3⟩
  have hB3 := HB2.out.below h3 HB2.out.lt
  have x0 := hB3.cell 0
  have x1 := hB3.cell 1
  simp at x0 x1
  have HB3 := hide hB3
  have H3 := hide (chain H2.out h3)
  clear h3 hB3
  have hmn := many_any 1 101
  rw [show manyI 1 101 = 100 by decide] at hmn
  have HMN := hide hmn
  clear hmn
  go_wp2_with fail
  refine (HMN.out _).mono ?_
  rintro e w4 ⟨rfl, h4⟩
  have HB4 := hide (HB3.out.below h4 HB3.out.lt)
  have H4 := hide (chain H3.out h4)
  clear h4 x0 x1
  go_wp2_with fail
  refine (equal_any _).mono ?_
  rintro e w5 ⟨g, rfl, hP5, hg, h5⟩
  have HB5 := hide (HB4.out.below h5 HB4.out.lt)
  have H5 := hide (chain H4.out h5)
  have HP5 := hide hP5
  clear hP5 hg h5
  go_wp2_with fail
  go_loopw [10, 36] (fun s i wr => ∃ (k : Nat) (A' : Option Addr) (c' : Nat), k ≤ 2 ∧ i = .int .i64 k ∧ s = .slice A' k c' ∧ OwnS wr w5.heap.size 83 3 A' k c' ((planL k).map encBl) ∧ Below w5.heap.size w5 wr) (fun _ i _ => 2 - (RowKit.intOf i).toNat)
  case atStart => exact ⟨0, none, 0, by omega, rfl, rfl, OwnS.nil_ _ _ _ _, Below.refl _ _⟩
  case round =>
    obtain ⟨k, A', c', hk, rfl, rfl, ho, hb⟩ := hrel
    have HO := hide ho
    have HBE := hide hb
    clear ho
    by_cases hlt : k < 2
    · have y0 := kept hb (show w5.cell? ⟨w.heap.size, 0, none⟩ = some (.int .i64 1) from HB5.out.cell 0)
      have hk0 : (0 : Int) ≤ (k : Int) := by omega
      have hk1 : (k : Int) < 2 := by omega
      have hsh : ∀ W, Calls Tryz.prog 48 #[.int .i64 1, .int .i64 (IntKind.i64.wrap ((IntKind.i64.wrap ((k : Int) * 12)).tdiv 2))] W fun e w' => e = .returned (.tuple #[.int .i64 (if k = 0 then 1 else 182), .int .i64 0]) ∧ Below W.heap.size W w' := fun W => by
        rcases (show k = 0 ∨ k = 1 by omega) with rfl | rfl
        · exact shift_one 0 1 1 W (.inl ⟨rfl, rfl, rfl⟩)
        · exact shift_one 6 7 182 W (.inr ⟨rfl, rfl, rfl⟩)
      have HSH := hide hsh
      obtain ⟨du, hdu⟩ : ∃ du : Int, (if k = 0 then (1 : Int) else 182) = du := ⟨_, rfl⟩
      rw [hdu] at HSH
      have HDU := hide hdu
      clear hb hsh hdu
      go_wp2_with fail
      refine wp_region_class (fun W => Below wr.heap.size wr W) (by kernel_rfl) (by kernel_rfl) (Below.refl _ _).drew ?_
      repeat (first
        | go_big_quiet_skip
        | (go_big_quiet_want
           first
             | (go_big_quiet_op
                go_big_quiet_on)
             | (refine quiet_call (v := .tuple #[.int .i64 du, .int .i64 0]) (f := 48) (args := #[.int .i64 1, .int .i64 (IntKind.i64.wrap ((IntKind.i64.wrap ((k : Int) * 12)).tdiv 2))]) ?_ ?_ ?_
                · intro W hW
                  have y0 := kept hW y0
                  clear hW
                  go_simp
                  done
                · intro W hW
                  exact (HSH.out W).mono fun e w'' h => ⟨h.1, chain hW h.2⟩
                simp only [Act.put, List.setIfInBounds_toArray, List.set_cons_zero, List.set_cons_succ]
                go_big_quiet_on)
             | (refine quiet_yield (v := ?_) ?_ ?_
                rotate_left
                · intro W hW
                  have y0 := kept hW y0
                  clear hW
                  go_simp
                  try with_reducible rfl
                simp only [Act.put, List.setIfInBounds_toArray, List.set_cons_zero, List.set_cons_succ]
                go_big_quiet_on)))
      refine wpQuiet_nil ?_
      intro W hW
      have HW := hide (chain HBE.out hW)
      have hP := HP5.out.below HW.out HP5.out.lt
      have p1 := hP.cell k
      have hu5 : (#[Value.int .i64 5000, .int .i64 5000] : Array Value)[k]? = some (.int .i64 5000) := by rcases (show k = 0 ∨ k = 1 by omega) with rfl | rfl <;> rfl
      rw [hu5] at p1
      have HO2 := hide (HO.out.below hW)
      have hszw := HW.out.size
      clear hW y0 hP hu5
      go_wp2_with (at_builtin
                   refine wpList_app rfl (.tmp 51) (.tmp 58) 78 rfl elBl (B := w5.heap.size) (A2 := some ⟨_, 0, none⟩) (news := [(du, (5000 : Int))].map encBl) rfl (HO2.out.alloc _) rfl rfl ?_ (okBl [(du, 5000)]) ?_ ?_ ?_ ?_
                   · exact sl_of_blk (cs := #[.int .i64 du, .int .i64 5000, .int .i64 0]) (Blk.new _ _ _)
                   · simp only [maxLen]; omega
                   · omega
                   · simp; omega
                   intro A6 c6 w6 ho6 hg6 ha6
                   have HO6 := hide ho6
                   have H6 := hide ((HW.out.alloc HW.out.size _).grown hg6 (by simp; omega) (fun q hq => (HO2.out.lt q hq).1))
                   clear ho6 hg6 ha6)
      go_roundw
      case rel => exact ⟨k + 1, A6, c6, by omega, by go_num, rfl, by rw [planL_succ, List.map_append, HDU.out]; exact HO6.out, H6.out⟩
      case measure => simp [RowKit.intOf]; omega
    · obtain rfl : k = 2 := by omega
      go_wp2_with fail
      go_ret2
      exact ⟨A', c', rfl, HO.out.sv, chain H5.out HBE.out⟩
end Go.Proofs.YtmfohnchnbgbaaaGreatDoor

/- Two lists of bills that are one; the policy that is looked at. -/
namespace Go.Proofs.YtmfohnchnbgbaaaGreatDoor
open Go.RowKit Go.Lib

theorem neq_bl (a0 a1 a2 b0 b1 b2 : Int) (w : World) : (binOp .neq 83 (.agg #[.int .i64 a0, .int .i64 a1, .int .i64 a2]) (.agg #[.int .i64 b0, .int .i64 b1, .int .i64 b2])).run Tryz.prog w = .ok (.bool (!decide (a0 = b0 ∧ a1 = b1 ∧ a2 = b2))) w := by
  by_cases h0 : a0 = b0 <;> by_cases h1 : a1 = b1 <;> by_cases h2 : a2 = b2 <;> simp [go_sem, h0, h1, h2]
theorem Sl.bl {w : World} {B k : Nat} {A : Option Addr} {M : List (Int × Int)} {c : Int × Int} (h : Sl w B 3 A (M.map encBl)) (hx : M[k]? = some c) :
    ∃ b off, A = some ⟨b, off, none⟩ ∧ b < B ∧ w.cell? ⟨b, off + k * 3, none⟩ = some (.int .i64 c.1) ∧ w.cell? ⟨b, off + k * 3 + 1, none⟩ = some (.int .i64 c.2) ∧ w.cell? ⟨b, off + k * 3 + 2, none⟩ = some (.int .i64 0) := by
  obtain ⟨b, off, hA, hb, hc⟩ := h k (encBl c) (by simp [hx])
  exact ⟨b, off, hA, hb, by simpa using hc 0 _ rfl, hc 1 _ rfl, hc 2 _ rfl⟩

set_option maxRecDepth 100000 in
set_option maxHeartbeats 2000000 in
theorem sameBl_any (A A2 : Option Addr) (n cap cap2 : Nat) (l : List (Int × Int)) (w : World) (hs : SV w 3 A n cap (l.map encBl)) (hs2 : SV w 3 A2 n cap2 (l.map encBl)) (hm : n ≤ 1000000) :
    Calls Tryz.prog 22 #[.slice A n cap, .slice A2 n cap2] w fun e w' => e = .returned (.bool true) ∧ Below w.heap.size w w' := by
  have hn : l.length = n := by have := hs.len; simpa using this
  have HN := hide hn
  have HS := hide hs
  have HS2 := hide hs2
  clear hn hs hs2
  have hbn : ((n : Int) != (n : Int)) = false := by simp
  go_enter Tryz.func22, Tryz.ntmps22
  go_wp2_with fail
  go_loopw [5] (fun i wr => ∃ k : Nat, k ≤ n ∧ i = .int .i64 k ∧ Below w.heap.size w wr) (fun i _ => n - (RowKit.intOf i).toNat)
  case atStart => exact ⟨0, Nat.zero_le _, rfl, Below.refl _ _⟩
  case round =>
    obtain ⟨k, hk, rfl, hb⟩ := hrel
    have HB := hide hb
    by_cases hlt : k < n
    · obtain ⟨c, hx⟩ := get_of (l := l) (k := k) (by rw [HN.out]; exact hlt)
      obtain ⟨b, off, rfl, hbl, c0, c1, c2⟩ := (HS.out.below hb).sl.bl hx
      obtain ⟨b', off', rfl, hbl', d0, d1, d2⟩ := (HS2.out.below hb).sl.bl hx
      have hk0 : (0 : Int) ≤ (k : Int) := by omega
      have hk1 : (k : Int) < (n : Int) := by omega
      have hnq : ∀ w, (binOp .neq 83 (.agg #[.int .i64 c.1, .int .i64 c.2, .int .i64 0]) (.agg #[.int .i64 c.1, .int .i64 c.2, .int .i64 0])).run Tryz.prog w = .ok (.bool false) w := fun w => by rw [neq_bl]; simp
      clear hx hb
      go_wp2_with fail
      refine wp_region_class (fun W => Below wr.heap.size wr W) (by kernel_rfl) (by kernel_rfl) (Below.refl _ _).drew ?_
      repeat (first
        | go_big_quiet_skip
        | (go_big_quiet_want
           first
             | (go_big_quiet_op
                go_big_quiet_on)
             | (refine quiet_yield (v := ?_) ?_ ?_
                rotate_left
                · intro W hW
                  have c0 := kept hW c0
                  have c1 := kept hW c1
                  have c2 := kept hW c2
                  have d0 := kept hW d0
                  have d1 := kept hW d1
                  have d2 := kept hW d2
                  clear hW
                  go_simp
                  try with_reducible rfl
                simp only [Act.put, List.setIfInBounds_toArray, List.set_cons_zero, List.set_cons_succ]
                go_big_quiet_on)))
      refine wpQuiet_nil ?_
      intro W hW
      have HW := hide (chain HB.out hW)
      clear hW c0 c1 c2 d0 d1 d2 hnq
      go_wp2_with fail
      go_roundw
      case rel => exact ⟨k + 1, by omega, by go_num, HW.out⟩
      case measure => simp [RowKit.intOf]; omega
    · obtain rfl : k = n := by omega
      clear hb
      go_wp2_with fail
      go_ret
      exact ⟨rfl, HB.out⟩

/-- The policy, where it lies. -/
def polH (A : Option Addr) : Hi := ⟨1, 1, ⟨1, 101, 0, 36500, 0, 0, A, [⟨1, 10, 10, 0, 10000⟩], 1⟩, none, [], 0⟩
def polV (Z P : Option Addr) : Vw := ⟨1, 10000, 0, 0, 0, none, [], 0, Z, [10000], 1, P, [10000, 10000, 10000, 10000, 10000, 10000, 10000, 10000], 8, 0⟩
def PolP (w : World) (e : Ending) (w' : World) : Prop := ∃ A Z P V, e = .returned (.tuple #[.agg (hiC (polH A)), .agg #[.slice V 1 1]]) ∧ HV w' (polH A) ∧ TV w' V 1 1 [polV Z P] ∧ Below w.heap.size w w'
def verC (Z P : Option Addr) : Array Value := #[.int .i64 1, .int .i64 10000, .int .i64 0, .int .i64 0, .int .i64 0, .slice none 0 0, .slice Z 1 1, .slice P 8 8, .int .i64 0]
theorem ver_cells {w : World} {g : Nat} {Z P : Option Addr} (h : Blk w g 114 (verC Z P)) : w.cell? ⟨g, 0, none⟩ = some (.int .i64 1) ∧ w.cell? ⟨g, 1, none⟩ = some (.int .i64 10000) ∧ w.cell? ⟨g, 2, none⟩ = some (.int .i64 0) ∧ w.cell? ⟨g, 3, none⟩ = some (.int .i64 0) ∧ w.cell? ⟨g, 4, none⟩ = some (.int .i64 0) ∧
    w.cell? ⟨g, 5, none⟩ = some (.slice none 0 0) ∧ w.cell? ⟨g, 6, none⟩ = some (.slice Z 1 1) ∧ w.cell? ⟨g, 7, none⟩ = some (.slice P 8 8) ∧ w.cell? ⟨g, 8, none⟩ = some (.int .i64 0) :=
  ⟨h.cell 0, h.cell 1, h.cell 2, h.cell 3, h.cell 4, h.cell 5, h.cell 6, h.cell 7, h.cell 8⟩
def hisC (A : Option Addr) : Array Value := #[.int .i64 1, .int .i64 1, .int .i64 1, .int .i64 101, .int .i64 0, .int .i64 36500, .int .i64 0, .int .i64 0, .slice A 1 1, .slice none 0 0]
theorem his_cells {w : World} {g : Nat} {A : Option Addr} (h : Blk w g 64 (hisC A)) : w.cell? ⟨g, 0, none⟩ = some (.int .i64 1) ∧ w.cell? ⟨g, 1, none⟩ = some (.int .i64 1) ∧ w.cell? ⟨g, 2, none⟩ = some (.int .i64 1) ∧ w.cell? ⟨g, 3, none⟩ = some (.int .i64 101) ∧ w.cell? ⟨g, 4, none⟩ = some (.int .i64 0) ∧
    w.cell? ⟨g, 5, none⟩ = some (.int .i64 36500) ∧ w.cell? ⟨g, 6, none⟩ = some (.int .i64 0) ∧ w.cell? ⟨g, 7, none⟩ = some (.int .i64 0) ∧ w.cell? ⟨g, 8, none⟩ = some (.slice A 1 1) ∧ w.cell? ⟨g, 9, none⟩ = some (.slice none 0 0) :=
  ⟨h.cell 0, h.cell 1, h.cell 2, h.cell 3, h.cell 4, h.cell 5, h.cell 6, h.cell 7, h.cell 8, h.cell 9⟩
/-- What lies there ahead of the last statement. -/
structure PolW (w W : World) (G : Nat) (X : Array Value) : Prop where
  hr : Blk W G 64 X
  tr : Blk W (G + 1) 67 #[.slice none 0 0]
  z : Blk W (G + 1 + 1) 3 #[.int .i64 10000]
  p : Blk W (G + 1 + 1 + 1) 3 #[.int .i64 10000, .int .i64 10000, .int .i64 10000, .int .i64 10000, .int .i64 10000, .int .i64 10000, .int .i64 10000, .int .i64 10000]
  v : Blk W (G + 1 + 1 + 1 + 1) 114 (verC (some ⟨G + 1 + 1, 0, none⟩) (some ⟨G + 1 + 1 + 1, 0, none⟩))
  c : Blk W (G + 1 + 1 + 1 + 1 + 1) 41 #[.int .i64 1, .int .i64 10, .int .i64 10, .int .i64 0, .int .i64 10000]
  h : Blk W (G + 1 + 1 + 1 + 1 + 1 + 1) 64 (hisC (some ⟨G + 1 + 1 + 1 + 1 + 1, 0, none⟩))
  be : Below w.heap.size w W
  ge : w.heap.size ≤ G
theorem PolW.below {w W W' : World} {G : Nat} {X : Array Value} (h : PolW w W G X) (hb : Below W.heap.size W W') : PolW w W' G X :=
  ⟨h.hr.below hb h.hr.lt, h.tr.below hb h.tr.lt, h.z.below hb h.z.lt, h.p.below hb h.p.lt, h.v.below hb h.v.lt, h.c.below hb h.c.lt, h.h.below hb h.h.lt, chain h.be hb, h.ge⟩
theorem PolW.setR {w W : World} {G : Nat} {a0 a1 a2 a3 a4 a5 a6 a7 a8 a9 z0 z1 z2 z3 z4 z5 z6 z7 z8 z9 : Value} (h : PolW w W G #[z0, z1, z2, z3, z4, z5, z6, z7, z8, z9]) : PolW w ((((((((((W.setCell ⟨G, 0, none⟩ a0).setCell ⟨G, 1, none⟩ a1).setCell ⟨G, 2, none⟩ a2).setCell ⟨G, 3, none⟩ a3).setCell ⟨G, 4, none⟩ a4).setCell ⟨G, 5, none⟩ a5).setCell ⟨G, 6, none⟩ a6).setCell ⟨G, 7, none⟩ a7).setCell ⟨G, 8, none⟩ a8).setCell ⟨G, 9, none⟩ a9) G #[a0, a1, a2, a3, a4, a5, a6, a7, a8, a9] := by
  have far : ∀ {g : Nat} {t : TypeId} {cs : Array Value}, Blk W g t cs → g ≠ G → Blk ((((((((((W.setCell ⟨G, 0, none⟩ a0).setCell ⟨G, 1, none⟩ a1).setCell ⟨G, 2, none⟩ a2).setCell ⟨G, 3, none⟩ a3).setCell ⟨G, 4, none⟩ a4).setCell ⟨G, 5, none⟩ a5).setCell ⟨G, 6, none⟩ a6).setCell ⟨G, 7, none⟩ a7).setCell ⟨G, 8, none⟩ a8).setCell ⟨G, 9, none⟩ a9) g t cs := fun hb hn =>
    (((((((((hb.far (p := ⟨G, 0, none⟩) hn _).far (p := ⟨G, 1, none⟩) hn _).far (p := ⟨G, 2, none⟩) hn _).far (p := ⟨G, 3, none⟩) hn _).far (p := ⟨G, 4, none⟩) hn _).far (p := ⟨G, 5, none⟩) hn _).far (p := ⟨G, 6, none⟩) hn _).far (p := ⟨G, 7, none⟩) hn _).far (p := ⟨G, 8, none⟩) hn _).far (p := ⟨G, 9, none⟩) hn _
  exact ⟨hi_fill h.hr, far h.tr (by omega), far h.z (by omega), far h.p (by omega), far h.v (by omega), far h.c (by omega), far h.h (by omega),
    (((((((((h.be.setCell (p := ⟨G, 0, none⟩) h.ge _).setCell (p := ⟨G, 1, none⟩) h.ge _).setCell (p := ⟨G, 2, none⟩) h.ge _).setCell (p := ⟨G, 3, none⟩) h.ge _).setCell (p := ⟨G, 4, none⟩) h.ge _).setCell (p := ⟨G, 5, none⟩) h.ge _).setCell (p := ⟨G, 6, none⟩) h.ge _).setCell (p := ⟨G, 7, none⟩) h.ge _).setCell (p := ⟨G, 8, none⟩) h.ge _).setCell (p := ⟨G, 9, none⟩) h.ge _, h.ge⟩
theorem ret_rr {P : Program} {fn : Func} {R : Ending → World → Prop} {a : Act} {w : World} {p p2 : Tmp} {ty ty2 : TypeId} {g g2 : Nat} {t t2 : TypeId} {cs cs2 : Array Value} {d d2 : TypeDesc} (h : fn.results = #[.cell p ty, .cell p2 ty2]) (hde : a.defers = [])
    (hp : a.tmps.getD p undef = .pointer (some ⟨g, 0, none⟩)) (hg : Blk w g t cs) (hu : P.underlying ty = some d) (hd : (match d with | .struct _ | .array _ _ => true | _ => false) = true) (hi : (P.info? ty).map (·.size) = some cs.size)
    (hp2 : a.tmps.getD p2 undef = .pointer (some ⟨g2, 0, none⟩)) (hg2 : Blk w g2 t2 cs2) (hu2 : P.underlying ty2 = some d2) (hd2 : (match d2 with | .struct _ | .array _ _ => true | _ => false) = true) (hi2 : (P.info? ty2).map (·.size) = some cs2.size)
    (hR : R (.returned (.tuple #[.agg cs, .agg cs2])) w) : bodyPost P fn R .ret a w :=
  bodyPost_ret (by
    have e1 := run_loadVar_row (P := P) w g t ty cs (0, 0) d hg hu hd hi
    have e2 := run_loadVar_row (P := P) w g2 t2 ty2 cs2 (0, 0) d2 hg2 hu2 hd2 hi2
    have q1 : a.tmps[p]?.getD undef = .pointer (some ⟨g, 0, none⟩) := by simpa using hp
    have q2 : a.tmps[p2]?.getD undef = .pointer (some ⟨g2, 0, none⟩) := by simpa using hp2
    simp [results, h, q1, q2, asAddr, e1, e2, Sem.run_bind, Result.andThen]) hde hR
def polWd (w : World) : World := (((((((w.alloc (.cells hiZ 64)).alloc (.cells #[.slice none 0 0] 67)).alloc (.cells #[.int .i64 10000] 3)).alloc (.cells #[.int .i64 10000, .int .i64 10000, .int .i64 10000, .int .i64 10000, .int .i64 10000, .int .i64 10000, .int .i64 10000, .int .i64 10000] 3)).alloc
    (.cells (verC (some ⟨w.heap.size + 1 + 1, 0, none⟩) (some ⟨w.heap.size + 1 + 1 + 1, 0, none⟩)) 114)).alloc (.cells #[.int .i64 1, .int .i64 10, .int .i64 10, .int .i64 0, .int .i64 10000] 41)).alloc (.cells (hisC (some ⟨w.heap.size + 1 + 1 + 1 + 1 + 1, 0, none⟩)) 64))
theorem polW_new (w : World) : PolW w (polWd w) w.heap.size hiZ := by
  refine ⟨?_, ?_, ?_, ?_, ?_, ?_, ?_, ?_, Nat.le_refl _⟩
  · exact ((((((Blk.new _ _ _).alloc _).alloc _).alloc _).alloc _).alloc _).alloc _
  · exact (((((Blk.new' (by simp)).alloc _).alloc _).alloc _).alloc _).alloc _
  · exact ((((Blk.new' (by simp)).alloc _).alloc _).alloc _).alloc _
  · exact (((Blk.new' (by simp)).alloc _).alloc _).alloc _
  · exact ((Blk.new' (by simp)).alloc _).alloc _
  · exact (Blk.new' (by simp)).alloc _
  · exact Blk.new' (by simp)
  · exact (((((((Below.refl _ _).alloc (Nat.le_refl _) _).alloc (by simp) _).alloc (by simp; omega) _).alloc (by simp; omega) _).alloc (by simp; omega) _).alloc (by simp; omega) _).alloc (by simp; omega) _
def PolS (G : Nat) (W : World) : Prop := ((W.cell? ⟨G + 1 + 1 + 1 + 1 + 1 + 1, 0, none⟩ = some (.int .i64 1) ∧ W.cell? ⟨G + 1 + 1 + 1 + 1 + 1 + 1, 1, none⟩ = some (.int .i64 1) ∧ W.cell? ⟨G + 1 + 1 + 1 + 1 + 1 + 1, 2, none⟩ = some (.int .i64 1) ∧ W.cell? ⟨G + 1 + 1 + 1 + 1 + 1 + 1, 3, none⟩ = some (.int .i64 101) ∧ W.cell? ⟨G + 1 + 1 + 1 + 1 + 1 + 1, 4, none⟩ = some (.int .i64 0) ∧ W.cell? ⟨G + 1 + 1 + 1 + 1 + 1 + 1, 5, none⟩ = some (.int .i64 36500) ∧ W.cell? ⟨G + 1 + 1 + 1 + 1 + 1 + 1, 6, none⟩ = some (.int .i64 0) ∧ W.cell? ⟨G + 1 + 1 + 1 + 1 + 1 + 1, 7, none⟩ = some (.int .i64 0) ∧ W.cell? ⟨G + 1 + 1 + 1 + 1 + 1 + 1, 8, none⟩ = some (.slice (some ⟨G + 1 + 1 + 1 + 1 + 1, 0, none⟩) 1 1) ∧ W.cell? ⟨G + 1 + 1 + 1 + 1 + 1 + 1, 9, none⟩ = some (.slice none 0 0)) ∧ (W.cell? ⟨G + 1 + 1 + 1 + 1, 0, none⟩ = some (.int .i64 1) ∧ W.cell? ⟨G + 1 + 1 + 1 + 1, 1, none⟩ = some (.int .i64 10000) ∧ W.cell? ⟨G + 1 + 1 + 1 + 1, 2, none⟩ = some (.int .i64 0) ∧ W.cell? ⟨G + 1 + 1 + 1 + 1, 3, none⟩ = some (.int .i64 0) ∧ W.cell? ⟨G + 1 + 1 + 1 + 1, 4, none⟩ = some (.int .i64 0) ∧ W.cell? ⟨G + 1 + 1 + 1 + 1, 5, none⟩ = some (.slice none 0 0) ∧ W.cell? ⟨G + 1 + 1 + 1 + 1, 6, none⟩ = some (.slice (some ⟨G + 1 + 1, 0, none⟩) 1 1) ∧ W.cell? ⟨G + 1 + 1 + 1 + 1, 7, none⟩ = some (.slice (some ⟨G + 1 + 1 + 1, 0, none⟩) 8 8) ∧ W.cell? ⟨G + 1 + 1 + 1 + 1, 8, none⟩ = some (.int .i64 0)))
theorem polS {w W : World} {G : Nat} {X : Array Value} (h : PolW w W G X) : PolS G W := ⟨his_cells h.h, ver_cells h.v⟩
theorem pol_fin {w W : World} {G V : Nat} (h : PolW w W G (hisC (some ⟨G + 1 + 1 + 1 + 1 + 1, 0, none⟩))) (hv : Blk W V 114 (verC (some ⟨G + 1 + 1, 0, none⟩) (some ⟨G + 1 + 1 + 1, 0, none⟩))) (hV : G + 1 < V) :
    Blk (W.setCell ⟨G + 1, 0, none⟩ (.slice (some ⟨V, 0, none⟩) 1 1)) G 64 (hisC (some ⟨G + 1 + 1 + 1 + 1 + 1, 0, none⟩)) ∧ Blk (W.setCell ⟨G + 1, 0, none⟩ (.slice (some ⟨V, 0, none⟩) 1 1)) (G + 1) 67 #[.slice (some ⟨V, 0, none⟩) 1 1] ∧
      HV (W.setCell ⟨G + 1, 0, none⟩ (.slice (some ⟨V, 0, none⟩) 1 1)) (polH (some ⟨G + 1 + 1 + 1 + 1 + 1, 0, none⟩)) ∧ TV (W.setCell ⟨G + 1, 0, none⟩ (.slice (some ⟨V, 0, none⟩) 1 1)) (some ⟨V, 0, none⟩) 1 1 [polV (some ⟨G + 1 + 1, 0, none⟩) (some ⟨G + 1 + 1 + 1, 0, none⟩)] ∧
      Below w.heap.size w (W.setCell ⟨G + 1, 0, none⟩ (.slice (some ⟨V, 0, none⟩) 1 1)) := by
  have far : ∀ {g : Nat} {t : TypeId} {cs : Array Value}, Blk W g t cs → g ≠ G + 1 → Blk (W.setCell ⟨G + 1, 0, none⟩ (.slice (some ⟨V, 0, none⟩) 1 1)) g t cs := fun hb hn => hb.far (p := ⟨G + 1, 0, none⟩) hn _
  refine ⟨far h.hr (by omega), by simpa using h.tr.set_ 0 (.slice (some ⟨V, 0, none⟩) 1 1), ⟨?_, ?_, ?_, ?_, ?_⟩, ⟨?_, ?_⟩, h.be.setCell (p := ⟨G + 1, 0, none⟩) (by have := h.ge; simp; omega) _⟩
  · exact ⟨sl_of_blk (far h.c (by omega)), rfl, Nat.le_refl _, by simp [maxLen, polH], fun h => by cases h⟩
  · intro c hc
    simp only [polH, List.mem_singleton] at hc
    subst hc
    simp [okCv, ok64]
  · exact ⟨Sl.nil_, rfl, Nat.le_refl _, by simp [maxLen, polH], fun _ => rfl⟩
  · intro c hc; simp [polH] at hc
  · intro c hc; simp [polH] at hc
  · exact ⟨sl_of_blk (far hv (by omega)), rfl, Nat.le_refl _, by simp [maxLen], fun h => by cases h⟩
  · intro v hv'
    rw [List.mem_singleton] at hv'
    subst hv'
    exact ⟨⟨Sl.nil_, rfl, Nat.le_refl _, by simp [maxLen, polV], fun _ => rfl⟩, ⟨sl_ints (l := [10000]) (far h.z (by omega)) rfl, rfl, Nat.le_refl _, by simp [maxLen, polV], fun h => by cases h⟩,
      ⟨sl_ints (l := [10000, 10000, 10000, 10000, 10000, 10000, 10000, 10000]) (far h.p (by omega)) rfl, rfl, Nat.le_refl _, by simp [maxLen, polV], fun h => by cases h⟩⟩
set_option linter.unusedSimpArgs false in
set_option maxRecDepth 100000 in
set_option maxHeartbeats 4000000 in
theorem policy_any (w : World) : Calls Tryz.prog 16 #[] w (PolP w) := by
  have HP0 := hide (polW_new w)
  go_enter Tryz.func16, Tryz.ntmps16
  go_wp2_with fail
  change Code.wp Tryz.prog _ _ _ (polWd w)
  obtain ⟨W7, hW7⟩ : ∃ W, polWd w = W := ⟨_, rfl⟩
  rw [hW7] at HP0 ⊢
  obtain ⟨G, hG⟩ : ∃ G, w.heap.size = G := ⟨_, rfl⟩
  rw [hG] at HP0 ⊢
  have HP := hide HP0.out
  clear HP0 hW7
  have hS0 : PolS G W7.drew := polS (HP.out.below (Below.refl _ _).drew)
  refine wp_region_T (PolS G) [] rfl (by kernel_rfl) ?_
  refine wpAnyT_take (i := 0) (v := ?_) rfl (by kernel_rfl) (by kernel_rfl) (by kernel_rfl) (by kernel_rfl) (fun _ _ _ h => h) (Or.inl ⟨by rfl, ?_⟩) hS0 ?_
  rotate_left
  · intro W hSW
    obtain ⟨hs0, hs1⟩ := hSW
    go_simp
    try with_reducible rfl
  simp only [Act.put, List.setIfInBounds_toArray, List.set_cons_zero, List.set_cons_succ]
  refine wpAnyT_take (i := 1) (v := ?_) rfl (by kernel_rfl) (by kernel_rfl) (by kernel_rfl) (by kernel_rfl) (fun _ _ _ h => h) (Or.inl ⟨by rfl, ?_⟩) hS0 ?_
  rotate_left
  · intro W hSW
    obtain ⟨hs0, hs1⟩ := hSW
    go_simp
    try with_reducible rfl
  simp only [Act.put, List.setIfInBounds_toArray, List.set_cons_zero, List.set_cons_succ]
  have HPd := hide (HP.out.below (Below.refl _ _).drew)
  have hGV : G + 1 < W7.heap.size := HP.out.tr.lt
  refine wpAnyT_ready (rs := [2, 4]) (by kernel_rfl) (by simp) ?_
  refine AllReadyT.cons rfl (fun K hK => ?_) ?_
  · go_simp
    have HA := hide (HPd.out.below ((Below.refl _ _).alloc (Nat.le_refl _) (.cells (verC (some ⟨G + 1 + 1, 0, none⟩) (some ⟨G + 1 + 1 + 1, 0, none⟩)) 114)))
    have HVA := hide (Blk.new W7.drew 114 (verC (some ⟨G + 1 + 1, 0, none⟩) (some ⟨G + 1 + 1 + 1, 0, none⟩)))
    refine hK.out _ _ (fun _ => polS HA.out) ?_
    try simp only [Act.put, List.setIfInBounds_toArray, List.set_cons_zero, List.set_cons_succ]
    clear hK K
    obtain ⟨WA, hWA⟩ : ∃ W, W7.drew.alloc (.cells (verC (some ⟨G + 1 + 1, 0, none⟩) (some ⟨G + 1 + 1 + 1, 0, none⟩)) 114) = W := ⟨_, rfl⟩
    change wpAnyT _ _ _ _ _ _ _ _ _ (W7.drew.alloc (.cells (verC (some ⟨G + 1 + 1, 0, none⟩) (some ⟨G + 1 + 1 + 1, 0, none⟩)) 114))
    rw [hWA] at HA HVA ⊢
    clear hWA
    have HVA2 := hide (show Blk WA W7.heap.size 114 (verC (some ⟨G + 1 + 1, 0, none⟩) (some ⟨G + 1 + 1 + 1, 0, none⟩)) from HVA.out)
    refine wpAnyT_take (i := 3) (v := ?_) rfl (by kernel_rfl) (by kernel_rfl) (by kernel_rfl) (by kernel_rfl) (fun _ _ _ h => h) (Or.inl ⟨by rfl, ?_⟩) (polS HA.out) ?_
    rotate_left
    · intro W hSW
      clear hSW
      go_simp
      try with_reducible rfl
    simp only [Act.put, List.setIfInBounds_toArray, List.set_cons_zero, List.set_cons_succ]
    refine wpAnyT_ready (rs := [4]) (by kernel_rfl) (by simp) ?_
    refine AllReadyT.cons rfl (fun K hK => ?_) ?_
    · skip
      have r0 : WA.cell? ⟨G, 0, none⟩ = some (.int .i64 0) := HA.out.hr.cell 0
      have g0 := HA.out.hr.frozen 0
      have r1 : WA.cell? ⟨G, 1, none⟩ = some (.int .i64 0) := HA.out.hr.cell 1
      have g1 := HA.out.hr.frozen 1
      have r2 : WA.cell? ⟨G, 2, none⟩ = some (.int .i64 0) := HA.out.hr.cell 2
      have g2 := HA.out.hr.frozen 2
      have r3 : WA.cell? ⟨G, 3, none⟩ = some (.int .i64 0) := HA.out.hr.cell 3
      have g3 := HA.out.hr.frozen 3
      have r4 : WA.cell? ⟨G, 4, none⟩ = some (.int .i64 0) := HA.out.hr.cell 4
      have g4 := HA.out.hr.frozen 4
      have r5 : WA.cell? ⟨G, 5, none⟩ = some (.int .i64 0) := HA.out.hr.cell 5
      have g5 := HA.out.hr.frozen 5
      have r6 : WA.cell? ⟨G, 6, none⟩ = some (.int .i64 0) := HA.out.hr.cell 6
      have g6 := HA.out.hr.frozen 6
      have r7 : WA.cell? ⟨G, 7, none⟩ = some (.int .i64 0) := HA.out.hr.cell 7
      have g7 := HA.out.hr.frozen 7
      have r8 : WA.cell? ⟨G, 8, none⟩ = some (.slice none 0 0) := HA.out.hr.cell 8
      have g8 := HA.out.hr.frozen 8
      have r9 : WA.cell? ⟨G, 9, none⟩ = some (.slice none 0 0) := HA.out.hr.cell 9
      have g9 := HA.out.hr.frozen 9
      have HR := hide (PolW.setR (a0 := .int .i64 1) (a1 := .int .i64 1) (a2 := .int .i64 1) (a3 := .int .i64 101) (a4 := .int .i64 0) (a5 := .int .i64 36500) (a6 := .int .i64 0) (a7 := .int .i64 0) (a8 := .slice (some ⟨G + 1 + 1 + 1 + 1 + 1, 0, none⟩) 1 1) (a9 := .slice none 0 0) HA.out)
      have HVR := hide (((((((((((HVA2.out.far (p := ⟨G, 0, none⟩) (by simp; omega) (.int .i64 1)).far (p := ⟨G, 1, none⟩) (by simp; omega) (.int .i64 1)).far (p := ⟨G, 2, none⟩) (by simp; omega) (.int .i64 1)).far (p := ⟨G, 3, none⟩) (by simp; omega) (.int .i64 101)).far (p := ⟨G, 4, none⟩) (by simp; omega) (.int .i64 0)).far (p := ⟨G, 5, none⟩) (by simp; omega) (.int .i64 36500)).far (p := ⟨G, 6, none⟩) (by simp; omega) (.int .i64 0)).far (p := ⟨G, 7, none⟩) (by simp; omega) (.int .i64 0)).far (p := ⟨G, 8, none⟩) (by simp; omega) (.slice (some ⟨G + 1 + 1 + 1 + 1 + 1, 0, none⟩) 1 1)).far (p := ⟨G, 9, none⟩) (by simp; omega) (.slice none 0 0)))
      go_simp
      refine hK.out _ _ (fun _ => polS HR.out) ?_
      try simp only [Act.put, List.setIfInBounds_toArray, List.set_cons_zero, List.set_cons_succ]
      clear r0 g0 r1 g1 r2 g2 r3 g3 r4 g4 r5 g5 r6 g6 r7 g7 r8 g8 r9 g9
      clear hK K
      obtain ⟨WR, hWR⟩ : ∃ W, ((((((((((WA.setCell ⟨G, 0, none⟩ (.int .i64 1)).setCell ⟨G, 1, none⟩ (.int .i64 1)).setCell ⟨G, 2, none⟩ (.int .i64 1)).setCell ⟨G, 3, none⟩ (.int .i64 101)).setCell ⟨G, 4, none⟩ (.int .i64 0)).setCell ⟨G, 5, none⟩ (.int .i64 36500)).setCell ⟨G, 6, none⟩ (.int .i64 0)).setCell ⟨G, 7, none⟩ (.int .i64 0)).setCell ⟨G, 8, none⟩ (.slice (some ⟨G + 1 + 1 + 1 + 1 + 1, 0, none⟩) 1 1)).setCell ⟨G, 9, none⟩ (.slice none 0 0)) = W := ⟨_, rfl⟩
      rw [hWR] at HR HVR ⊢
      clear hWR
      refine wpAnyT_ready (rs := [5]) (by kernel_rfl) (by simp) ?_
      refine AllReadyT.cons rfl (fun K hK => ?_) ?_
      · have s0 := HR.out.tr.cell 0
        have s1 := HR.out.tr.frozen 0
        simp at s0
        go_simp
        refine hK.out _ _ (fun _ => ?_) ?_
        · exact ⟨his_cells (HR.out.h.far (p := ⟨G + 1, 0, none⟩) (by simp; omega) _), ver_cells (HR.out.v.far (p := ⟨G + 1, 0, none⟩) (by simp; omega) _)⟩
        try simp only [Act.put, List.setIfInBounds_toArray, List.set_cons_zero, List.set_cons_succ]
        clear hK K s0 s1
        refine wpAnyT_done (by kernel_rfl) ?_ _
        obtain ⟨e1, e2, e3, e4, e5⟩ := pol_fin HR.out HVR.out (by omega)
        have E1 := hide e1
        have E2 := hide e2
        have E3 := hide e3
        have E4 := hide e4
        have E5 := hide e5
        clear e1 e2 e3 e4 e5
        go_wp2_with fail
        exact ret_rr rfl rfl rfl E1.out Tryz.underlying64 rfl (by kernel_rfl) rfl E2.out Tryz.underlying67 rfl (by kernel_rfl) ⟨_, _, _, _, rfl, E3.out, E4.out, E5.out⟩
      exact AllReadyT.nil
    exact AllReadyT.nil
  refine AllReadyT.cons rfl (fun K hK => ?_) ?_
  · obtain ⟨WD, hWD⟩ : ∃ W, W7.drew = W := ⟨_, rfl⟩
    have hsz7 : W7.heap.size = WD.heap.size := by rw [← hWD]; rfl
    rw [hWD] at HPd ⊢
    rw [hsz7] at hGV
    clear hWD hsz7
    have r0 : WD.cell? ⟨G, 0, none⟩ = some (.int .i64 0) := HPd.out.hr.cell 0
    have g0 := HPd.out.hr.frozen 0
    have r1 : WD.cell? ⟨G, 1, none⟩ = some (.int .i64 0) := HPd.out.hr.cell 1
    have g1 := HPd.out.hr.frozen 1
    have r2 : WD.cell? ⟨G, 2, none⟩ = some (.int .i64 0) := HPd.out.hr.cell 2
    have g2 := HPd.out.hr.frozen 2
    have r3 : WD.cell? ⟨G, 3, none⟩ = some (.int .i64 0) := HPd.out.hr.cell 3
    have g3 := HPd.out.hr.frozen 3
    have r4 : WD.cell? ⟨G, 4, none⟩ = some (.int .i64 0) := HPd.out.hr.cell 4
    have g4 := HPd.out.hr.frozen 4
    have r5 : WD.cell? ⟨G, 5, none⟩ = some (.int .i64 0) := HPd.out.hr.cell 5
    have g5 := HPd.out.hr.frozen 5
    have r6 : WD.cell? ⟨G, 6, none⟩ = some (.int .i64 0) := HPd.out.hr.cell 6
    have g6 := HPd.out.hr.frozen 6
    have r7 : WD.cell? ⟨G, 7, none⟩ = some (.int .i64 0) := HPd.out.hr.cell 7
    have g7 := HPd.out.hr.frozen 7
    have r8 : WD.cell? ⟨G, 8, none⟩ = some (.slice none 0 0) := HPd.out.hr.cell 8
    have g8 := HPd.out.hr.frozen 8
    have r9 : WD.cell? ⟨G, 9, none⟩ = some (.slice none 0 0) := HPd.out.hr.cell 9
    have g9 := HPd.out.hr.frozen 9
    have HR := hide (PolW.setR (a0 := .int .i64 1) (a1 := .int .i64 1) (a2 := .int .i64 1) (a3 := .int .i64 101) (a4 := .int .i64 0) (a5 := .int .i64 36500) (a6 := .int .i64 0) (a7 := .int .i64 0) (a8 := .slice (some ⟨G + 1 + 1 + 1 + 1 + 1, 0, none⟩) 1 1) (a9 := .slice none 0 0) HPd.out)
    go_simp
    refine hK.out _ _ (fun _ => polS HR.out) ?_
    try simp only [Act.put, List.setIfInBounds_toArray, List.set_cons_zero, List.set_cons_succ]
    clear r0 g0 r1 g1 r2 g2 r3 g3 r4 g4 r5 g5 r6 g6 r7 g7 r8 g8 r9 g9
    clear hK K
    refine wpAnyT_ready (rs := [2]) (by kernel_rfl) (by simp) ?_
    refine AllReadyT.cons rfl (fun K hK => ?_) ?_
    · go_simp
      have HA := hide (HR.out.below ((Below.refl _ _).alloc (Nat.le_refl _) (.cells (verC (some ⟨G + 1 + 1, 0, none⟩) (some ⟨G + 1 + 1 + 1, 0, none⟩)) 114)))
      have HVA := hide (Blk.new' (g := WD.heap.size) (t := 114) (cs := verC (some ⟨G + 1 + 1, 0, none⟩) (some ⟨G + 1 + 1 + 1, 0, none⟩)) (show WD.heap.size = (((((((((((WD.setCell ⟨G, 0, none⟩ (.int .i64 1)).setCell ⟨G, 1, none⟩ (.int .i64 1)).setCell ⟨G, 2, none⟩ (.int .i64 1)).setCell ⟨G, 3, none⟩ (.int .i64 101)).setCell ⟨G, 4, none⟩ (.int .i64 0)).setCell ⟨G, 5, none⟩ (.int .i64 36500)).setCell ⟨G, 6, none⟩ (.int .i64 0)).setCell ⟨G, 7, none⟩ (.int .i64 0)).setCell ⟨G, 8, none⟩ (.slice (some ⟨G + 1 + 1 + 1 + 1 + 1, 0, none⟩) 1 1)).setCell ⟨G, 9, none⟩ (.slice none 0 0))).heap.size by simp))
      refine hK.out _ _ (fun _ => polS HA.out) ?_
      try simp only [Act.put, List.setIfInBounds_toArray, List.set_cons_zero, List.set_cons_succ]
      clear hK K
      obtain ⟨WA, hWA⟩ : ∃ W, ((((((((((WD.setCell ⟨G, 0, none⟩ (.int .i64 1)).setCell ⟨G, 1, none⟩ (.int .i64 1)).setCell ⟨G, 2, none⟩ (.int .i64 1)).setCell ⟨G, 3, none⟩ (.int .i64 101)).setCell ⟨G, 4, none⟩ (.int .i64 0)).setCell ⟨G, 5, none⟩ (.int .i64 36500)).setCell ⟨G, 6, none⟩ (.int .i64 0)).setCell ⟨G, 7, none⟩ (.int .i64 0)).setCell ⟨G, 8, none⟩ (.slice (some ⟨G + 1 + 1 + 1 + 1 + 1, 0, none⟩) 1 1)).setCell ⟨G, 9, none⟩ (.slice none 0 0)).alloc (.cells (verC (some ⟨G + 1 + 1, 0, none⟩) (some ⟨G + 1 + 1 + 1, 0, none⟩)) 114) = W := ⟨_, rfl⟩
      change wpAnyT _ _ _ _ _ _ _ _ _ (((((((((((WD.setCell ⟨G, 0, none⟩ (.int .i64 1)).setCell ⟨G, 1, none⟩ (.int .i64 1)).setCell ⟨G, 2, none⟩ (.int .i64 1)).setCell ⟨G, 3, none⟩ (.int .i64 101)).setCell ⟨G, 4, none⟩ (.int .i64 0)).setCell ⟨G, 5, none⟩ (.int .i64 36500)).setCell ⟨G, 6, none⟩ (.int .i64 0)).setCell ⟨G, 7, none⟩ (.int .i64 0)).setCell ⟨G, 8, none⟩ (.slice (some ⟨G + 1 + 1 + 1 + 1 + 1, 0, none⟩) 1 1)).setCell ⟨G, 9, none⟩ (.slice none 0 0)).alloc (.cells (verC (some ⟨G + 1 + 1, 0, none⟩) (some ⟨G + 1 + 1 + 1, 0, none⟩)) 114))
      rw [hWA] at HA HVA ⊢
      clear hWA
      refine wpAnyT_take (i := 3) (v := ?_) rfl (by kernel_rfl) (by kernel_rfl) (by kernel_rfl) (by kernel_rfl) (fun _ _ _ h => h) (Or.inl ⟨by rfl, ?_⟩) (polS HA.out) ?_
      rotate_left
      · intro W hSW
        clear hSW
        go_simp
        try with_reducible rfl
      simp only [Act.put, List.setIfInBounds_toArray, List.set_cons_zero, List.set_cons_succ]
      refine wpAnyT_ready (rs := [5]) (by kernel_rfl) (by simp) ?_
      refine AllReadyT.cons rfl (fun K hK => ?_) ?_
      · have s0 := HA.out.tr.cell 0
        have s1 := HA.out.tr.frozen 0
        simp at s0
        go_simp
        refine hK.out _ _ (fun _ => ?_) ?_
        · exact ⟨his_cells (HA.out.h.far (p := ⟨G + 1, 0, none⟩) (by simp; omega) _), ver_cells (HA.out.v.far (p := ⟨G + 1, 0, none⟩) (by simp; omega) _)⟩
        try simp only [Act.put, List.setIfInBounds_toArray, List.set_cons_zero, List.set_cons_succ]
        clear hK K s0 s1
        refine wpAnyT_done (by kernel_rfl) ?_ _
        obtain ⟨e1, e2, e3, e4, e5⟩ := pol_fin HA.out HVA.out (by omega)
        have E1 := hide e1
        have E2 := hide e2
        have E3 := hide e3
        have E4 := hide e4
        have E5 := hide e5
        clear e1 e2 e3 e4 e5
        go_wp2_with fail
        exact ret_rr rfl rfl rfl E1.out Tryz.underlying64 rfl (by kernel_rfl) rfl E2.out Tryz.underlying67 rfl (by kernel_rfl) ⟨_, _, _, _, rfl, E3.out, E4.out, E5.out⟩
      exact AllReadyT.nil
    exact AllReadyT.nil
  exact AllReadyT.nil
end Go.Proofs.YtmfohnchnbgbaaaGreatDoor

/- The policy's premium is alive. -/
namespace Go.Proofs.YtmfohnchnbgbaaaGreatDoor
open Go.RowKit Go.Lib

set_option maxRecDepth 1000000 in
theorem pol_due (A Z P : Option Addr) : due0 (polH A) (allV [polV Z P]) = (10000, 0) := by kernel_rfl
set_option maxRecDepth 1000000 in
theorem pol_slE (A Z P : Option Addr) : slE (polH A) [] (allV [polV Z P]) = 0 := by kernel_rfl
set_option maxRecDepth 1000000 in
theorem pol_upto (A Z P : Option Addr) : UptoS (slL (polH A) [] (allV [polV Z P])) 41 = (4000, 0) := by kernel_rfl
/-- The cancel. -/
def polC (A : Option Addr) (k : Nat) : Ch := ⟨5, 41, 3, 0, 0, 0, 0, A, [], k, 0⟩
set_option maxRecDepth 1000000 in
theorem pol_given (Z P tA cA B : Option Addr) (tc cc cap : Nat) : shortC [polC cA cc] = false ∧ due0 { polH tA with tm := { (polH tA).tm with A := tA, cap := tc }, A := B, cs := [polC cA cc], cap := cap } (allV [polV Z P]) = (4000, 0) := ⟨by kernel_rfl, by kernel_rfl⟩
theorem lenV_pol (Z P : Option Addr) : ∀ x ∈ [polV Z P], LenV x := by
  intro x hx
  rw [List.mem_singleton] at hx
  subst hx
  simp [LenV, polV]
theorem polU {out : List Sc} {A Z P : Option Addr} (h : out.map Sc.v = slL (polH A) [] (allV [polV Z P])) : UptoQ out 41 = (4000, 0) := by rw [uptoS_of h]; exact pol_upto A Z P
theorem his_hic (A : Option Addr) : hisC A = hiC (polH A) := rfl
def hisV (A : Option Addr) : Value := .agg #[.int .i64 1, .int .i64 1, .int .i64 1, .int .i64 101, .int .i64 0, .int .i64 36500, .int .i64 0, .int .i64 0, .slice A 1 1, .slice none 0 0]

set_option maxRecDepth 100000 in
set_option maxHeartbeats 4000000 in
theorem palive_any (w : World) : Calls Tryz.prog 5 #[] w fun e w' => e = .returned (.bool true) ∧ Below w.heap.size w w' := by
  go_enter Tryz.func5, Tryz.ntmps5
  go_wp2_with fail
  refine (policy_any w).mono ?_
  rintro e w1 ⟨A, Z, P, V, rfl, hv, hT, h1⟩
  have hd : ∀ W, HV W (polH A) → TV W V 1 1 [polV Z P] → Calls Tryz.prog 17 #[.agg #[.int .i64 1, .int .i64 1, .int .i64 1, .int .i64 101, .int .i64 0, .int .i64 36500, .int .i64 0, .int .i64 0, .slice A 1 1, .slice none 0 0], .agg #[.slice V 1 1]] W fun e w' => e = .returned (.tuple #[.int .i64 10000, .int .i64 0]) ∧ Below W.heap.size W w' := fun W a b => by
    have h := due0_any (polH A) V 1 1 [polV Z P] W a b (lenV_pol Z P) (by simp [polH]) rfl
    rw [pol_due] at h
    exact h
  have hsl : ∀ W, HV W (polH A) → TV W V 1 1 [polV Z P] → Calls Tryz.prog 18 #[.agg #[.int .i64 1, .int .i64 1, .int .i64 1, .int .i64 101, .int .i64 0, .int .i64 36500, .int .i64 0, .int .i64 0, .slice A 1 1, .slice none 0 0], .agg #[.slice V 1 1]] W (SlcP 0 (slL (polH A) [] (allV [polV Z P])) W) := fun W a b => by
    have h := slc_any (polH A) [] V 1 [polV Z P] W a b (lenV_pol Z P) (fun _ => ordd_small (polH A) W a (by simp [polH]))
    rw [pol_slE] at h
    exact h
  have hgi : ∀ W, HV W (polH A) → TV W V 1 1 [polV Z P] → Calls Tryz.prog 20 #[.agg #[.int .i64 1, .int .i64 1, .int .i64 1, .int .i64 101, .int .i64 0, .int .i64 36500, .int .i64 0, .int .i64 0, .slice A 1 1, .slice none 0 0], .agg #[.slice V 1 1], .agg #[.int .i64 5, .int .i64 41, .int .i64 3, .int .i64 0, .int .i64 0, .int .i64 0, .int .i64 0, .slice none 0 0, .int .i64 0]] W fun e w' => e = .returned (.tuple #[.int .i64 6000, .int .i64 0]) ∧ Below W.heap.size W w' := fun W a b =>
    given0_any (polH A) (polC none 0) V 1 1 [polV Z P] 10000 4000 W a b (lenV_pol Z P) rfl rfl rfl ⟨Sl.nil_, rfl, Nat.le_refl _, by simp [maxLen, polC], fun _ => rfl⟩ ⟨by simp [ok64, polC], fun x hx => by simp [polC] at hx⟩ (by kernel_rfl) (by kernel_rfl) (by simp [polH, polC]) (by simp [polH, polC]) (pol_due A Z P) (fun tA cA B tc cc cap => pol_given Z P tA cA B tc cc cap) (by omega)
  have hup : ∀ W B A5 cap5 (out : List Sc), out.map Sc.v = slL (polH A) [] (allV [polV Z P]) → Made W B A5 cap5 out → Calls Tryz.prog 19 #[.slice A5 out.length cap5, .int .i64 41] W fun e w' => e = .returned (.tuple #[.int .i64 4000, .int .i64 0]) ∧ Below W.heap.size W w' := fun W B A5 cap5 out ho hm => by
    have h := Upto_any addc_all A5 cap5 out.length out 41 W hm.own.sv
    rw [polU ho] at h
    exact h
  obtain ⟨w2, hw2⟩ : ∃ W, (w1.alloc (.cells (hisC A) 64)).alloc (.cells #[.slice V 1 1] 67) = W := ⟨_, rfl⟩
  have hb2 : Below w1.heap.size w1 w2 := by rw [← hw2]; exact ((Below.refl _ _).alloc (Nat.le_refl _) _).alloc (by simp) _
  have hB2 : Blk w2 w1.heap.size 64 (hisC A) := by rw [← hw2]; exact (Blk.new _ _ _).alloc _
  have hC2 : Blk w2 (w1.heap.size + 1) 67 #[.slice V 1 1] := by rw [← hw2]; exact Blk.new' (by simp)
  obtain ⟨x0, x1, x2, x3, x4, x5, x6, x7, x8, x9⟩ := his_cells hB2
  have y0 : w2.cell? ⟨w1.heap.size + 1, 0, none⟩ = some (.slice V 1 1) := hC2.cell 0
  have HB2 := hide hB2
  have HC2 := hide hC2
  have HV2 := hide (hv.below hb2)
  have HT2 := hide (hT.below hb2)
  have H2 := hide (chain h1 hb2)
  have HD := hide hd
  have HS := hide hsl
  have HG := hide hgi
  have HU := hide hup
  clear hv hT h1 hd hsl hgi hup hb2 hB2 hC2
  rw [← his_hic, hisC]
  go_upto_region 2 with fail
  change Code.wp _ _ _ _ ((w1.alloc (.cells (hisC A) 64)).alloc (.cells #[.slice V 1 1] 67))
  rw [hw2]
  clear hw2
  go_wp2_with fail
  refine (HD.out _ HV2.out HT2.out).mono ?_
  rintro e w3 ⟨rfl, h3⟩
  have HB3 := hide (HB2.out.below h3 HB2.out.lt)
  have HC3 := hide (HC2.out.below h3 HC2.out.lt)
  have HV3 := hide (HV2.out.below h3)
  have HT3 := hide (HT2.out.below h3)
  have H3 := hide (chain H2.out h3)
  clear h3 x0 x1 x2 x3 x4 x5 x6 x7 x8 x9 y0
  obtain ⟨x0, x1, x2, x3, x4, x5, x6, x7, x8, x9⟩ := his_cells HB3.out
  have y0 : w3.cell? ⟨w1.heap.size + 1, 0, none⟩ = some (.slice V 1 1) := HC3.out.cell 0
  go_wp2_with fail
  refine (HS.out _ HV3.out HT3.out).mono ?_
  rintro e w4 ⟨h4, ⟨hne, -⟩ | ⟨-, A5, cap5, out, rfl, hov, hmd⟩⟩
  · exact absurd rfl hne
  have HB4 := hide (HB3.out.below h4 HB3.out.lt)
  have HC4 := hide (HC3.out.below h4 HC3.out.lt)
  have HV4 := hide (HV3.out.below h4)
  have HT4 := hide (HT3.out.below h4)
  have H4 := hide (chain H3.out h4)
  have HM4 := hide hmd
  have HOV := hide hov
  clear h4 hov hmd x0 x1 x2 x3 x4 x5 x6 x7 x8 x9 y0
  go_wp2_with fail
  refine (HU.out _ _ _ _ _ HOV.out HM4.out).mono ?_
  rintro e w5 ⟨rfl, h5⟩
  have HB5 := hide (HB4.out.below h5 HB4.out.lt)
  have HC5 := hide (HC4.out.below h5 HC4.out.lt)
  have HV5 := hide (HV4.out.below h5)
  have HT5 := hide (HT4.out.below h5)
  have H5 := hide (chain H4.out h5)
  clear h5
  obtain ⟨x0, x1, x2, x3, x4, x5, x6, x7, x8, x9⟩ := his_cells HB5.out
  have y0 : w5.cell? ⟨w1.heap.size + 1, 0, none⟩ = some (.slice V 1 1) := HC5.out.cell 0
  go_wp2_with fail
  refine (HG.out _ HV5.out HT5.out).mono ?_
  rintro e w6 ⟨rfl, h6⟩
  have HB6 := hide (HB5.out.below h6 HB5.out.lt)
  have HC6 := hide (HC5.out.below h6 HC5.out.lt)
  have HV6 := hide (HV5.out.below h6)
  have HT6 := hide (HT5.out.below h6)
  have H6 := hide (chain H5.out h6)
  clear h6 x0 x1 x2 x3 x4 x5 x6 x7 x8 x9 y0
  obtain ⟨x0, x1, x2, x3, x4, x5, x6, x7, x8, x9⟩ := his_cells HB6.out
  have y0 : w6.cell? ⟨w1.heap.size + 1, 0, none⟩ = some (.slice V 1 1) := HC6.out.cell 0
  go_wp2_with fail
  refine (plan_any _).mono ?_
  rintro e w7 ⟨A7, c7, rfl, hp7, h7⟩
  have H7 := hide (chain H6.out h7)
  have hal := (Below.refl w7.heap.size w7).alloc (Nat.le_refl _) (.cells #[.int .i64 1, .int .i64 5000, .int .i64 0, .int .i64 182, .int .i64 5000, .int .i64 0] 83)
  have hsa := sameBl_any A7 (some ⟨w7.heap.size, 0, none⟩) 2 c7 2 [(1, 5000), (182, 5000)] _ (hp7.below hal) (OwnS.lit w7 (B := w7.heap.size) (Nat.le_refl _) 83 (sz := 3) ([(1, 5000), (182, 5000)].map encBl) (okBl _) (by simp [maxLen]) #[.int .i64 1, .int .i64 5000, .int .i64 0, .int .i64 182, .int .i64 5000, .int .i64 0] rfl).sv (by omega)
  have HSA := hide hsa
  clear h7 hp7 hal hsa x0 x1 x2 x3 x4 x5 x6 x7 x8 x9 y0
  go_wp2_with fail
  refine HSA.out.mono ?_
  rintro e w8 ⟨rfl, h8⟩
  have H8 := hide (chain H7.out (chain1 h8))
  clear h8
  go_wp2_with fail
  go_ret
  exact ⟨rfl, H8.out⟩
end Go.Proofs.YtmfohnchnbgbaaaGreatDoor

/- How one year of development develops: the program's. -/
namespace Go.Proofs.YtmfohnchnbgbaaaGreatDoor
open Go.RowKit

set_option maxRecDepth 100000 in
set_option maxHeartbeats 2000000 in
theorem factor_any (f : Int) (A : Option Addr) (cap k : Nat) (M : List Rw) (w : World) (hs : MV w A M.length cap M) (ho : OkC (allM M)) (hk : k ≤ 20) :
    Calls Tryz.prog 51 #[.agg #[.int .i64 f, .slice A M.length cap], .int .i64 k] w fun e w' => e = .returned (.agg #[.int .i64 ((facK (allM M) k).1 : Nat), .int .i64 ((facK (allM M) k).2 : Nat)]) ∧ Below w.heap.size w w' := by
  have HS := hide hs
  have HO := hide ho
  have hm20 : M.length ≤ 20 := by have := ho.1; rwa [allM_len] at this
  clear hs ho
  go_enter Tryz.func51, Tryz.ntmps51
  go_wp2_with fail
  obtain ⟨w1, hw1⟩ : ∃ W, ((w.alloc (.cells #[.int .i64 f, .slice A M.length cap] 33)).alloc (.cells #[.int .i64 0, .int .i64 0] 137)).alloc (.cells #[.int .i64 0, .int .i64 0] 137) = W := ⟨_, rfl⟩
  have hR1 : Blk w1 (w.heap.size + 1) 137 #[.int .i64 0, .int .i64 0] := by rw [← hw1]; exact (Blk.new' (by simp)).alloc _
  have hS1 : Blk w1 (w.heap.size + 1 + 1) 137 #[.int .i64 0, .int .i64 0] := by rw [← hw1]; exact Blk.new' (by simp)
  have h1 : Below w.heap.size w w1 := by rw [← hw1]; exact (((Below.refl _ _).alloc (Nat.le_refl _) _).alloc (by simp) _).alloc (by simp; omega) _
  rw [hw1]
  clear hw1
  go_loopw [11] (fun q wr => ∃ j : Nat, j ≤ M.length ∧ q = .int .i64 j ∧ Below w.heap.size w wr ∧ Blk wr (w.heap.size + 1) 137 #[.int .i64 0, .int .i64 0] ∧ Blk wr (w.heap.size + 1 + 1) 137 #[.int .i64 ((colS k ((allM M).take j)).1 : Nat), .int .i64 ((colS k ((allM M).take j)).2 : Nat)]) (fun q _ => M.length - (RowKit.intOf q).toNat)
  case atStart => exact ⟨0, Nat.zero_le _, rfl, h1, hR1, hS1⟩
  case round =>
    clear h1 hR1 hS1
    obtain ⟨j, hj, rfl, hb, hR, hS⟩ := hrel
    have HB := hide hb
    have HR := hide hR
    have HSS := hide hS
    by_cases hlt : j < M.length
    · obtain ⟨r, hr⟩ := get_of hlt
      obtain ⟨bb, off, rfl, hbl, c0⟩ := (HS.out.below hb).sv.sl.rw hr
      have hk0 : (0 : Int) ≤ (j : Int) := by omega
      have hk1 : (j : Int) < (M.length : Int) := by omega
      have hrow := HS.out.rows r (List.mem_of_getElem? hr)
      have hrm : r.l ∈ allM M := List.mem_map.2 ⟨r, List.mem_of_getElem? hr, rfl⟩
      have hlen : r.l.length ≤ 9223372036854775807 := by have := hrow.le; have := hrow.most; unfold maxLen at this; omega
      have HT := hide (colS_take (k := k) (allM_get hr))
      have hcl := colS_le (c := (allM M).take j) k (fun l hl => HO.out.2 l (List.mem_of_mem_take hl))
      rw [List.length_take] at hcl
      obtain ⟨n, hn⟩ : ∃ z, (colS k ((allM M).take j)).1 = z := ⟨_, rfl⟩
      obtain ⟨d, hd⟩ : ∃ z, (colS k ((allM M).take j)).2 = z := ⟨_, rfl⟩
      rw [hn, hd] at hcl HSS HT
      have hnb : n ≤ 2000000000000000000 := by omega
      have hdb : d ≤ 2000000000000000000 := by omega
      by_cases hlong : k + 1 < r.l.length
      · have hlong' : (k : Int) + 1 < (r.l.length : Int) := by omega
        obtain ⟨x, hx⟩ := get_of hlong
        obtain ⟨y, hy⟩ := get_of (l := r.l) (k := k) (by omega)
        obtain ⟨b1, o1, hA1, hb1, x0⟩ := hrow.sl.i hx
        obtain ⟨b2, o2, hA2, hb2, y0⟩ := hrow.sl.i hy
        rw [hA1] at hA2
        cases hA2
        have x0 := kept hb x0
        have y0 := kept hb y0
        have hxn := celN_eq (HO.out.2 r.l hrm) hx
        have hyn := celN_eq (HO.out.2 r.l hrm) hy
        have hxb := celN_le (HO.out.2 r.l hrm) (k + 1)
        have hyb := celN_le (HO.out.2 r.l hrm) k
        rw [hxn] at x0
        rw [hyn] at y0
        obtain ⟨cx, hcx⟩ : ∃ z, celN r.l (k + 1) = z := ⟨_, rfl⟩
        obtain ⟨cy, hcy⟩ : ∃ z, celN r.l k = z := ⟨_, rfl⟩
        rw [hcx] at x0 hxb HT
        rw [hcy] at y0 hyb HT
        rw [if_pos hlong] at HT
        rw [hA1] at c0
        have s0 := HSS.out.cell 0
        have s1 := HSS.out.cell 1
        have f0 := HSS.out.frozen 0
        have f1 := HSS.out.frozen 1
        simp at s0 s1
        have hki : (0 : Int) ≤ (k : Int) := by omega
        have hki1 : (0 : Int) ≤ (k : Int) + 1 := by omega
        have hki2 : (k : Int) < (r.l.length : Int) := by omega
        have hw1 : IntKind.i64.wrap ((k : Int) + 1) = (k : Int) + 1 := IntWalk.i64_in _ (by omega)
        have hw2 : IntKind.i64.wrap ((n : Int) + (cx : Int)) = (n : Int) + (cx : Int) := IntWalk.i64_in _ (by omega)
        have hw3 : IntKind.i64.wrap ((d : Int) + (cy : Int)) = (d : Int) + (cy : Int) := IntWalk.i64_in _ (by omega)
        clear hr hb hR hS hrow hrm hn hd hx hy hxn hyn hcx hcy hA1 hcl
        go_wp2_with fail
        go_region_law (fail)
        all_goals
          go_wp2_with fail
          go_region_law (fail)
        all_goals
          go_wp2_with fail
          go_roundw
          case rel =>
            refine ⟨j + 1, by omega, by go_num, ?_, ?_, ?_⟩
            · exact (((HB.out.setCell (p := ⟨w.heap.size + 1 + 1, 0, none⟩) (by simp only; omega) _).setCell (p := ⟨w.heap.size + 1 + 1, 1, none⟩) (by simp only; omega) _).drew).drew
            · exact (((HR.out.far (by simp) _).far (by simp) _).drew).drew
            · have h := (((HSS.out.set_ 0 (.int .i64 ((n : Int) + (cx : Int)))).set_ 1 (.int .i64 ((d : Int) + (cy : Int)))).drew).drew
              rw [HT.out]
              simpa using h
          case measure => simp [RowKit.intOf]; omega
      · have hlong' : ¬ (k : Int) + 1 < (r.l.length : Int) := by omega
        rw [if_neg hlong] at HT
        have HRW := hide HR.out
        clear hr hb hR hS hrow hrm hcl
        go_wp2_with fail
        go_roundw
        case rel => exact ⟨j + 1, by omega, by go_num, HB.out, HRW.out, by rw [HT.out, hn, hd]; exact HSS.out⟩
        case measure => simp [RowKit.intOf]; omega
    · obtain rfl : j = M.length := by omega
      have hk1 : ¬ (((M.length : Nat) : Int) < (M.length : Int)) := by omega
      rw [List.take_of_length_le (by rw [allM_len]; exact Nat.le_refl _)] at HSS
      obtain ⟨n, hn⟩ : ∃ z, (colS k (allM M)).1 = z := ⟨_, rfl⟩
      obtain ⟨d, hd⟩ : ∃ z, (colS k (allM M)).2 = z := ⟨_, rfl⟩
      rw [hn, hd] at HSS
      have s0 := HSS.out.cell 0
      have s1 := HSS.out.cell 1
      have r0 := HR.out.cell 0
      have r1 := HR.out.cell 1
      have f0 := HR.out.frozen 0
      have f1 := HR.out.frozen 1
      simp at s0 s1 r0 r1
      by_cases hd0 : d = 0
      · have HF := hide (show facK (allM M) k = (1, 1) by unfold facK; rw [hd, if_pos hd0])
        have hd0' : ((d : Int) == 0) = true := by simp [hd0]
        clear hn hd hd0 hb hR hS
        go_wp2_with fail
        refine ret_row (g := w.heap.size + 1) (t := 137) (cs := #[.int .i64 1, .int .i64 1]) rfl rfl rfl ?_ Tryz.underlying137 rfl (by kernel_rfl) ⟨by rw [HF.out]; rfl, ?_⟩
        · have h := (HR.out.set_ 0 (.int .i64 1)).set_ 1 (.int .i64 1)
          simpa using h
        · exact (HB.out.setCell (p := ⟨w.heap.size + 1, 0, none⟩) (by simp only; omega) _).setCell (p := ⟨w.heap.size + 1, 1, none⟩) (by simp only; omega) _
      · have HF := hide (show facK (allM M) k = (n, d) by unfold facK; rw [hd, if_neg hd0, ← hn, ← hd])
        have hd0' : ((d : Int) == 0) = false := by simp; omega
        clear hn hd hd0 hb hR hS
        go_wp2_with fail
        refine ret_row (g := w.heap.size + 1) (t := 137) (cs := #[.int .i64 (n : Int), .int .i64 (d : Int)]) rfl rfl rfl ?_ Tryz.underlying137 rfl (by kernel_rfl) ⟨by rw [HF.out], ?_⟩
        · have h := (HR.out.set_ 0 (.int .i64 (n : Int))).set_ 1 (.int .i64 (d : Int))
          simpa using h
        · exact (HB.out.setCell (p := ⟨w.heap.size + 1, 0, none⟩) (by simp only; omega) _).setCell (p := ⟨w.heap.size + 1, 1, none⟩) (by simp only; omega) _
end Go.Proofs.YtmfohnchnbgbaaaGreatDoor

/- How years develop: both programs. -/
namespace Go.Proofs.YtmfohnchnbgbaaaGreatDoor
open Go.RowKit

def encRt (x : Nat × Nat) : List Value := [.int .i64 (x.1 : Int), .int .i64 (x.2 : Int)]
theorem elRt : ElT Tryz.prog 86 137 2 16 := ElT.mk' (z := .agg #[.int .i64 0, .int .i64 0]) Tryz.underlying86 (by kernel_rfl) rfl (by omega)
theorem okRt (l : List (Nat × Nat)) : RowsOk 2 (l.map encRt) := by
  intro r hr
  obtain ⟨x, _, rfl⟩ := List.mem_map.1 hr
  refine ⟨rfl, fun u hu => ?_⟩
  simp [encRt] at hu
  rcases hu with rfl | rfl <;> rfl
theorem sl_rt {w : World} {t : TypeId} (n d : Nat) : Sl (w.alloc (.cells #[.int .i64 (n : Int), .int .i64 (d : Int)] t)) (w.alloc (.cells #[.int .i64 (n : Int), .int .i64 (d : Int)] t)).heap.size 2 (some ⟨w.heap.size, 0, none⟩) ([(n, d)].map encRt) :=
  sl_of_blk (Blk.new w t #[.int .i64 (n : Int), .int .i64 (d : Int)])
theorem right_bounds {f : Int} {c : List (List Int)} (h : rightC f c = true) : 1 ≤ c.length ∧ c.length ≤ 20 := by
  rw [rightC, Bool.and_eq_true] at h
  have h1 := h.1
  rw [boundsB, decide_eq_true_eq] at h1
  exact ⟨h1.1, h1.2.1⟩
theorem right_b_Lad {w0 w wa : World} {f : Int} {A : Option Addr} {n cap : Nat} {M : List Rw} {c : List (List Int)} {r : Bool} (hs : MV wa A n cap M) (ha : Below wa.heap.size wa w) (h : Below w0.heap.size w0 w) (hf : ok64 f) (hc : allM M = c) (hr : rightC f c = r) :
    Calls Tryz.prog 34 #[.agg #[.int .i64 f, .slice A n cap]] w fun e w' => e = .returned (.bool r) ∧ Below w0.heap.size w0 w' ∧ Below w.heap.size w w' := by
  have hM := hs.len
  subst hM
  refine (right_any f A cap M w (hs.below ha) hf).mono ?_
  rintro e w' ⟨rfl, hb⟩
  exact ⟨by rw [hc, hr], chain h hb, hb⟩
/-- What the factors are, as both programs give them. -/
def FacP (w0 w : World) (r : Bool) (F : List (Nat × Nat)) (n : Nat) (e : Ending) (w' : World) : Prop :=
  (r = false → e = .returned (.tuple #[.slice none 0 0, .int .i64 1])) ∧ (r = true → ∃ A' c', e = .returned (.tuple #[.slice A' n c', .int .i64 0]) ∧ OwnS w' w0.heap.size 137 2 A' n c' (F.map encRt)) ∧ Below w0.heap.size w0 w' ∧ Below w.heap.size w w'

set_option maxRecDepth 100000 in
set_option maxHeartbeats 2000000 in
theorem factors_any (f : Int) (A : Option Addr) (cap : Nat) (M : List Rw) (w : World) (hs : MV w A M.length cap M) (hf : ok64 f) :
    Calls Tryz.prog 26 #[.agg #[.int .i64 f, .slice A M.length cap]] w (FacP w w (rightC f (allM M)) (facL (allM M)) (facL (allM M)).length) := by
  have HS := hide hs
  clear hs
  obtain ⟨r, hr⟩ : ∃ b, rightC f (allM M) = b := ⟨_, rfl⟩
  have HR := hide hr
  rw [hr]
  clear hr
  go_enter Tryz.func26, Tryz.ntmps26
  go_wp2_with fail
  refine (right_b_Lad (w0 := w) HS.out ((Below.refl _ _).alloc (Nat.le_refl _) _) ((Below.refl _ _).alloc (Nat.le_refl _) _) hf rfl HR.out).mono ?_
  rintro e w1 ⟨rfl, h1, hb1⟩
  cases r
  · clear hb1
    go_wp2_with fail
    go_ret2
    exact ⟨fun _ => rfl, fun h => (by cases h), h1, h1⟩
  have hok := right_okC HR.out
  have hbd := right_bounds HR.out
  rw [allM_len] at hbd
  have t0 := kept hb1 (b := w.heap.size) (o := 0) (u := .int .i64 f) (by simp)
  have t1 := kept hb1 (b := w.heap.size) (o := 1) (u := .slice A M.length cap) (by simp)
  have htl := block_lt_of_cell t0
  have H1 := hide h1
  have HOK := hide hok
  obtain ⟨m, hm⟩ : ∃ m, M.length = m + 1 := ⟨M.length - 1, by omega⟩
  have hml : (facL (allM M)).length = m := by rw [facL_len, allM_len, hm]; rfl
  have HML := hide hml
  have hmi : (M.length : Int) - 1 = (m : Int) := by omega
  have hmb : m ≤ 19 := by omega
  have HM := hide hm
  rw [hml]
  clear hb1 h1 hok hml hm
  go_wp2_with fail
  have T0 := hide t0
  have T1 := hide t1
  clear t0 t1
  go_loopw [4, 13] (fun o q wr => ∃ (j : Nat) (A' : Option Addr) (c' : Nat), j ≤ m ∧ q = .int .i64 j ∧ o = .slice A' j c' ∧ OwnS wr w1.heap.size 137 2 A' j c' (((facL (allM M)).take j).map encRt) ∧ Below w1.heap.size w1 wr) (fun _ q _ => m - (RowKit.intOf q).toNat)
  case atStart => exact ⟨0, none, 0, Nat.zero_le _, rfl, rfl, OwnS.nil_ _ _ _ _, Below.refl _ _⟩
  case round =>
    obtain ⟨j, A', c', hj, rfl, rfl, hown, hb⟩ := hrel
    have t0 := kept hb T0.out
    have t1 := kept hb T1.out
    have htl2 := block_lt_of_cell t0
    have HB := hide hb
    have HO := hide hown
    by_cases hlt : j < m
    · have hlt' : (j : Int) < (m : Int) := by omega
      have HG := hide (take_of (facL_get (c := allM M) (k := j) (by rw [allM_len, HM.out]; exact hlt)))
      clear hb hown
      go_wp2_with fail
      refine (factor_any f A cap j M wr (HS.out.below (chain H1.out HB.out)) HOK.out (by omega)).mono ?_
      rintro e w2 ⟨rfl, hb2⟩
      obtain ⟨n, hn⟩ : ∃ z, (facK (allM M) j).1 = z := ⟨_, rfl⟩
      obtain ⟨d, hd⟩ : ∃ z, (facK (allM M) j).2 = z := ⟨_, rfl⟩
      have hnd : facK (allM M) j = (n, d) := by rw [← hn, ← hd]
      rw [hn, hd]
      rw [hnd] at HG
      have hown2 := (HO.out.below hb2).alloc (.cells #[.int .i64 (n : Int), .int .i64 (d : Int)] 137)
      have H2 := hide (chain HB.out hb2)
      have hbz := H2.out.size
      have hb3 := H2.out.alloc hbz (.cells #[.int .i64 (n : Int), .int .i64 (d : Int)] 137)
      clear hb2 hn hd hnd t0 t1
      go_wp2_with (at_builtin; refine wpList_app rfl (.tmp 16) (.tmp 20) 86 rfl elRt (B := w1.heap.size) (news := [(n, d)].map encRt) rfl hown2 rfl rfl (sl_rt n d) (okRt _) (by unfold maxLen; omega) (by omega) (by simp; omega) ?_; intro A2 c2 w3 ho hg hA)
      have HO2 := hide ho
      have H3 := hide (hb3.grown hg (by simp; omega) (fun k e => (hown2.lt k e).1))
      clear ho hg hA hown2 hb3
      go_roundw
      case rel => exact ⟨j + 1, A2, c2, by omega, by go_num, rfl, by rw [HG.out, List.map_append]; exact HO2.out, H3.out⟩
      case measure => simp [RowKit.intOf]; omega
    · obtain rfl : j = m := by omega
      have hlt' : ¬ (j : Int) < (j : Int) := by omega
      go_wp2_with fail
      go_ret2
      have h9 := chain H1.out hb
      refine ⟨fun h => (by cases h), fun _ => ⟨A', c', by rw [HML.out]; rfl, ?_⟩, h9, h9⟩
      rw [List.take_of_length_le (by rw [HML.out]; exact Nat.le_refl _)] at hown
      rw [HML.out]
      exact hown.mono H1.out.size
end Go.Proofs.YtmfohnchnbgbaaaGreatDoor

/- How years develop: the document's. -/
namespace Go.Proofs.YtmfohnchnbgbaaaGreatDoor
open Go.RowKit

theorem colS_short {k : Nat} : ∀ {c : List (List Int)}, (∀ l ∈ c, l.length ≤ k + 1) → colS k c = (0, 0)
  | [], _ => rfl
  | l :: r, h => by
    rw [colS, if_neg (by have := h l (by simp); omega)]
    exact colS_short (c := r) (fun m hm => h m (by simp [hm]))
theorem colS_right {f : Int} {c : List (List Int)} (h : rightC f c = true) (k : Nat) : colS k c = colS k (c.take (c.length - (k + 1))) := by
  have h2 : colS k (c.drop (c.length - (k + 1))) = (0, 0) := by
    refine colS_short fun l hl => ?_
    obtain ⟨i, hi, he⟩ := List.getElem_of_mem hl
    rw [List.length_drop] at hi
    have h3 : c[c.length - (k + 1) + i]? = some l := by
      rw [← he, List.getElem_drop, List.getElem?_eq_getElem]
    have h4 := right_row h h3
    omega
  conv => lhs; rw [← List.take_append_drop (c.length - (k + 1)) c, colS_app, h2]
  simp

end Go.Proofs.YtmfohnchnbgbaaaGreatDoor

/- Amounts gone on with: the program's grow and all. -/
namespace Go.Proofs.YtmfohnchnbgbaaaGreatDoor
open Go.RowKit

/-- Factors are of their size. -/
def OkF (l : List (Nat × Nat)) : Prop := ∀ x ∈ l, x.1 ≤ 2000000000000000000 ∧ x.2 ≤ 2000000000000000000 ∧ 0 < x.2
theorem okF_facL {c : List (List Int)} (h : OkC c) : OkF (facL c) := fun x hx => by
  obtain ⟨k, _, rfl⟩ := List.mem_map.1 hx
  exact facK_le h k
theorem okF_drop {l : List (Nat × Nat)} (h : OkF l) (k : Nat) : OkF (l.drop k) := fun x hx => h x (List.mem_of_mem_drop hx)
theorem Sl.rt {w : World} {B k : Nat} {A : Option Addr} {l : List (Nat × Nat)} {x : Nat × Nat} (h : Sl w B 2 A (l.map encRt)) (hx : l[k]? = some x) :
    ∃ b off, A = some ⟨b, off, none⟩ ∧ b < B ∧ w.cell? ⟨b, off + k * 2, none⟩ = some (.int .i64 (x.1 : Int)) ∧ w.cell? ⟨b, off + k * 2 + 1, none⟩ = some (.int .i64 (x.2 : Int)) := by
  obtain ⟨b, off, hA, hb, hc⟩ := h k (encRt x) (by simp [hx])
  exact ⟨b, off, hA, hb, hc 0 _ rfl, hc 1 _ rfl⟩
/-- The error that a code is. -/
def errV (k : Int) : Value := if k = 0 then .nilIface else .iface 144 (.agg #[.int .i64 k])
theorem grow_code : ∀ (l : List (Nat × Nat)) (a : Nat), (growN a l).2 = 0 ∨ ((growN a l).2 = 5 ∧ (growN a l).1 = 0)
  | [], a => .inl rfl
  | r :: l, a => by
    rw [growN]
    split
    · exact grow_code l _
    · rename_i h
      rcases evE_cases a r.1 r.2 with h1 | h1
      · exact absurd h1 h
      · exact .inr ⟨h1, rfl⟩
theorem grow_le : ∀ (l : List (Nat × Nat)) (a : Nat), a ≤ 4000000000000000000 → (growN a l).1 ≤ 4000000000000000000
  | [], a, h => h
  | r :: l, a, h => by
    rw [growN]
    split
    · exact grow_le l _ (evQ_le _ _ _)
    · simp

set_option maxRecDepth 100000 in
set_option maxHeartbeats 2000000 in
theorem grow_any (amt : Nat) (A : Option Addr) (n cap : Nat) (l : List (Nat × Nat)) (w : World) (hs : SV w 2 A n cap (l.map encRt)) (hl : OkF l) (ha : amt ≤ 4000000000000000000) :
    Calls Tryz.prog 52 #[.int .i64 amt, .slice A n cap] w
      fun e w' => e = .returned (.tuple #[.int .i64 ((growN amt l).1 : Nat), errV (growN amt l).2]) ∧ Below w.heap.size w w' := by
  have hn : l.length = n := by have := hs.len; simpa using this
  subst hn
  have HS := hide hs
  have hmx := hs.le
  have hmy := hs.most
  unfold maxLen at hmy
  have HL := hide hl
  clear hs hl
  go_enter Tryz.func52, Tryz.ntmps52
  go_wp2_with fail
  go_loopw [0, 12] (fun a i wr => ∃ (j x : Nat), j ≤ l.length ∧ i = .int .i64 j ∧ a = .int .i64 x ∧ x ≤ 4000000000000000000 ∧ growN x (l.drop j) = growN amt l ∧ Below w.heap.size w wr) (fun _ i _ => l.length - (RowKit.intOf i).toNat)
  case atStart => exact ⟨0, amt, Nat.zero_le _, rfl, rfl, ha, rfl, Below.refl _ _⟩
  case round =>
    obtain ⟨j, x, hj, rfl, rfl, hx, hg, hb⟩ := hrel
    have HB := hide hb
    by_cases hlt : j < l.length
    · obtain ⟨r, hr⟩ := get_of hlt
      obtain ⟨bb, off, rfl, hbl, c0, c1⟩ := (HS.out.sl.below hb).rt hr
      have hr1 := HL.out r (List.mem_of_getElem? hr)
      obtain ⟨n, d⟩ := r
      obtain ⟨q1, q2, q3⟩ := hr1
      simp only at c0 c1 q1 q2 q3
      have hk0 : (0 : Int) ≤ (j : Int) := by omega
      have hk1 : (j : Int) < (l.length : Int) := by omega
      rw [drop_of hr, growN] at hg
      have HG := hide hg
      clear hr hg hb
      go_wp2_with fail
      refine (even_any x n d (by omega) (by omega) (by omega) q3 _).mono ?_
      rintro e w2 ⟨rfl, hb2⟩
      have H2 := hide (chain (HB.out.alloc HB.out.size _) hb2)
      have hqb := evQ_le x n d
      obtain ⟨q, hq⟩ : ∃ z, evQ x n d = z := ⟨_, rfl⟩
      obtain ⟨k, hk⟩ : ∃ z, evE x n d = z := ⟨_, rfl⟩
      have hkc := evE_cases x n d
      simp only [hk, hq] at HG hqb hkc ⊢
      clear hb2 hq hk c0 c1
      rcases hkc with rfl | rfl
      · rw [if_pos rfl] at HG
        go_wp2_with fail
        go_roundw
        case rel => exact ⟨j + 1, q, by omega, by go_num, rfl, hqb, HG.out, H2.out⟩
        case measure => simp [RowKit.intOf]; omega
      · rw [if_neg (by decide)] at HG
        go_wp2_with fail
        go_ret2
        rw [← HG.out]
        exact ⟨rfl, H2.out⟩
    · obtain rfl : j = l.length := by omega
      have hk1 : ¬ (((l.length : Nat) : Int) < (l.length : Int)) := by omega
      rw [List.drop_length] at hg
      have HG := hide hg
      clear hg
      go_wp2_with fail
      go_ret2
      rw [← HG.out]
      exact ⟨rfl, HB.out⟩
end Go.Proofs.YtmfohnchnbgbaaaGreatDoor

/- All years gone on with: the program's. -/
namespace Go.Proofs.YtmfohnchnbgbaaaGreatDoor
open Go.RowKit Go.BigFrame

def castL (l : List Nat) : List Int := l.map fun x : Nat => (x : Int)
theorem castL_len (l : List Nat) : (castL l).length = l.length := List.length_map _
/-- What all rows become, as the program gives it. -/
def AllP (w : World) (s : List Nat × Int) (e : Ending) (w' : World) : Prop :=
  (s.2 = 0 → ∃ A' c', e = .returned (.tuple #[.slice A' s.1.length c', .nilIface]) ∧ OwnS w' w.heap.size 3 1 A' s.1.length c' ((castL s.1).map encI)) ∧
  (s.2 ≠ 0 → ∃ i : Nat, e = .returned (.tuple #[.slice none 0 0, .iface 142 (.agg #[.int .i64 (i : Int), .iface 144 (.agg #[.int .i64 s.2])])])) ∧ Below w.heap.size w w'
theorem allN_code (F : List (Nat × Nat)) : ∀ (c : List (List Int)), (allN F c).2 = 0 ∨ ((allN F c).2 = 5 ∧ (allN F c).1 = [])
  | [] => .inl rfl
  | l :: r => by
    simp only [allN]
    split
    · rcases allN_code F r with h | ⟨h, h'⟩
      · rw [h, if_pos rfl]; exact .inl rfl
      · rw [h, if_neg (by decide)]; exact .inr ⟨rfl, rfl⟩
    · rename_i h
      rcases grow_code (F.drop (l.length - 1)) (celN l (l.length - 1)) with h1 | ⟨h1, _⟩
      · exact absurd h1 h
      · rw [h1]; exact .inr ⟨rfl, rfl⟩
/-- j rows have been gone on with. -/
def AllRel (F : List (Nat × Nat)) (c : List (List Int)) (j : Nat) (out : List Nat) : Prop := allN F c = (let s := allN F (c.drop j); if s.2 = 0 then (out ++ s.1, 0) else ([], s.2))
theorem AllRel.start (F : List (Nat × Nat)) (c : List (List Int)) : AllRel F c 0 [] := by
  unfold AllRel
  rw [List.drop_zero]
  rcases allN_code F c with h | ⟨h, h'⟩
  · simp only [h, if_pos]; exact Prod.ext rfl h
  · simp only [h]
    exact Prod.ext h' h
theorem AllRel.next {F : List (Nat × Nat)} {c : List (List Int)} {j x : Nat} {out : List Nat} {l : List Int} (h : AllRel F c j out) (hl : c[j]? = some l) (hg : growN (celN l (l.length - 1)) (F.drop (l.length - 1)) = (x, 0)) : AllRel F c (j + 1) (out ++ [x]) := by
  unfold AllRel at h ⊢
  rw [drop_of hl] at h
  simp only [allN, hg, if_pos] at h
  rw [h]
  rcases allN_code F (c.drop (j + 1)) with h1 | ⟨h1, _⟩
  · simp [h1]
  · simp [h1]
theorem AllRel.stop_ {F : List (Nat × Nat)} {c : List (List Int)} {j x : Nat} {out : List Nat} {l : List Int} (h : AllRel F c j out) (hl : c[j]? = some l) (hg : growN (celN l (l.length - 1)) (F.drop (l.length - 1)) = (x, 5)) : allN F c = ([], 5) := by
  unfold AllRel at h
  rw [drop_of hl] at h
  simp only [allN, hg] at h
  rw [h]; rfl
theorem AllRel.done {F : List (Nat × Nat)} {c : List (List Int)} {out : List Nat} (h : AllRel F c c.length out) : allN F c = (out, 0) := by
  unfold AllRel at h
  rw [List.drop_length] at h
  rw [h]; simp [allN]

/-- What l[k:] reads as. -/
theorem hsCut {w : World} {B : Option Addr} {n cap p : Nat} {F : List (Nat × Nat)} (h : SV w 2 B n cap (F.map encRt)) (hp : p ≤ n) : SV w 2 (if cap = p then B else B.map (·.add (p * 2))) (n - p) (cap - p) ((F.drop p).map encRt) := by
  have hl := h.len
  have hle := h.le
  have hm := h.most
  have hFl : F.length = n := by simpa using hl
  refine ⟨?_, by rw [List.length_map, List.length_drop, hFl], by omega, by omega, fun hn => ?_⟩
  · rw [List.map_drop]
    exact h.sl.cut (by rw [hl]; exact hle)
  · split at hn
    · rename_i h0; omega
    · cases B with
      | none => have := h.nil rfl; omega
      | some a => simp at hn
theorem grow_b {w0 w wa : World} {amt n cap x : Nat} {k : Int} {A : Option Addr} {l : List (Nat × Nat)} (hs : SV wa 2 A n cap (l.map encRt)) (hl : OkF l) (ha : amt ≤ 4000000000000000000) (hb : Below wa.heap.size wa w) (h : Below w0.heap.size w0 w) (hg : growN amt l = (x, k)) :
    Calls Tryz.prog 52 #[.int .i64 amt, .slice A n cap] w fun e w' => e = .returned (.tuple #[.int .i64 (x : Int), errV k]) ∧ Below w0.heap.size w0 w' := by
  refine (grow_any amt A n cap l w (hs.below hb) hl ha).mono ?_
  rintro e w' ⟨rfl, hb'⟩
  rw [hg]
  exact ⟨rfl, chain h hb'⟩

set_option maxRecDepth 100000 in
set_option maxHeartbeats 4000000 in
theorem all_any (f : Int) (A B : Option Addr) (cap nF capF : Nat) (M : List Rw) (F : List (Nat × Nat)) (w : World) (hs : MV w A M.length cap M) (hsF : SV w 2 B nF capF (F.map encRt)) (hF : OkF F) (hr : rightC f (allM M) = true) (hnF : M.length = nF + 1) :
    Calls Tryz.prog 27 #[.agg #[.int .i64 f, .slice A M.length cap], .slice B nF capF] w (AllP w (allN F (allM M))) := by
  have HS := hide hs
  have HSF := hide hsF
  have HF := hide hF
  have HR := hide hr
  have hok := right_okC hr
  have hbd := right_bounds hr
  rw [allM_len] at hbd
  have HOK := hide hok
  have hmF := hsF.le
  have hmF2 := hsF.most
  unfold maxLen at hmF2
  have HNF := hide hnF
  have hnF20 : nF ≤ 19 := by omega
  clear hs hsF hF hr hok hnF
  go_enter Tryz.func27, Tryz.ntmps27
  go_wp2_with fail
  obtain ⟨w1, hw1⟩ : ∃ W, w.alloc (.cells #[.int .i64 f, .slice A M.length cap] 33) = W := ⟨_, rfl⟩
  have h1 : Below w.heap.size w w1 := by rw [← hw1]; exact (Below.refl _ _).alloc (Nat.le_refl _) _
  rw [hw1]
  have H1 := hide h1
  clear hw1 h1
  go_loopw [6, 15] (fun o q wr => ∃ (j : Nat) (A' : Option Addr) (c' : Nat) (out : List Nat), j ≤ M.length ∧ out.length = j ∧ q = .int .i64 j ∧ o = .slice A' j c' ∧ OwnS wr w.heap.size 3 1 A' j c' ((castL out).map encI) ∧ AllRel F (allM M) j out ∧ Below w.heap.size w wr) (fun _ q _ => M.length - (RowKit.intOf q).toNat)
  case atStart => exact ⟨0, none, 0, [], Nat.zero_le _, rfl, rfl, rfl, OwnS.nil_ _ _ _ _, AllRel.start _ _, H1.out⟩
  case round =>
    obtain ⟨j, A', c', out, hj, hol, rfl, rfl, hown, hrel2, hb⟩ := hrel
    have HB := hide hb
    have HO := hide hown
    have HREL := hide hrel2
    have HOL := hide hol
    clear hown hrel2 hol
    by_cases hlt : j < M.length
    · obtain ⟨r, hrr⟩ := get_of hlt
      obtain ⟨bb, off, rfl, hbl, c0⟩ := (HS.out.sv.sl.below hb).rw hrr
      have hrl := right_row HR.out (allM_get hrr)
      rw [allM_len] at hrl
      have hrow := HS.out.rows r (List.mem_of_getElem? hrr)
      have hrm : r.l ∈ allM M := List.mem_map.2 ⟨r, List.mem_of_getElem? hrr, rfl⟩
      obtain ⟨p, hp⟩ : ∃ p, r.l.length = p + 1 := ⟨r.l.length - 1, by omega⟩
      obtain ⟨v, hv⟩ := get_of (l := r.l) (k := p) (by omega)
      obtain ⟨b1, o1, hA1, hb1, x0⟩ := hrow.sl.i hv
      have hvn := celN_eq (HOK.out.2 r.l hrm) hv
      have hvb := celN_le (HOK.out.2 r.l hrm) p
      have hpn : p ≤ nF := by have := HNF.out; omega
      have hcut := hsCut HSF.out hpn
      obtain ⟨Bc, hBc⟩ : ∃ z, (if capF = p then B else B.map (·.add (p * 2))) = z := ⟨_, rfl⟩
      rw [hBc] at hcut
      obtain ⟨a, ha⟩ : ∃ a, celN r.l p = a := ⟨_, rfl⟩
      rw [hvn, ha] at x0
      rw [ha] at hvb
      obtain ⟨g, hg⟩ : ∃ g, growN a (F.drop p) = g := ⟨_, rfl⟩
      obtain ⟨x, k⟩ := g
      have hgc : k = 0 ∨ k = 5 := by
        have := grow_code (F.drop p) a
        rw [hg] at this
        rcases this with h | ⟨h, _⟩
        · exact .inl h
        · exact .inr h
      have hg2 : growN (celN r.l (r.l.length - 1)) (F.drop (r.l.length - 1)) = (x, k) := by rw [hp, Nat.add_sub_cancel, ha, hg]
      have HG := hide hg
      have HG2 := hide hg2
      have HGET := hide (allM_get hrr)
      have HCUT := hide hcut
      have hk0 : (0 : Int) ≤ (j : Int) := by omega
      have hk1 : (j : Int) < (M.length : Int) := by omega
      have hlen : (r.l.length : Int) = (p : Int) + 1 := by omega
      have x0w := kept hb x0
      rw [hA1] at c0
      rw [hp] at c0
      have hp0 : (0 : Int) ≤ (p : Int) := by omega
      have hp1 : (p : Int) < (p : Int) + 1 := by omega
      have hp2 : (p : Int) ≤ (nF : Int) := by omega
      have hp3 : (nF : Int) ≤ (capF : Int) := by omega
      have hp4 : p ≤ 20 := by omega
      have hdrop : OkF (F.drop p) := okF_drop HF.out p
      have HD := hide hdrop
      clear hb hrr hrow hrm hv hvn ha hg hg2 hcut hA1 hp hrl hlen hdrop x0
      rcases hgc with rfl | rfl
      · go_upto_region 6 with fail
        refine wp_region_class (fun W => Below wr.heap.size wr W) (by kernel_rfl) (by kernel_rfl) (Below.refl _ _).drew ?_
        repeat (first
          | go_big_quiet_skip
          | (go_big_quiet_want
             first
               | (go_big_quiet_op
                  go_big_quiet_on)
               | (refine quiet_call (v := .tuple #[.int .i64 (x : Int), .nilIface]) (f := 52) (args := #[.int .i64 (a : Int), .slice Bc (nF - p) (capF - p)]) ?_ ?_ ?_
                  · intro W hW
                    have x0w := kept hW x0w
                    clear hW
                    go_simp
                    done
                  · intro W hW
                    exact grow_b HCUT.out HD.out (by omega) (chain HB.out hW) hW HG.out
                  simp only [Act.put, List.setIfInBounds_toArray, List.set_cons_zero, List.set_cons_succ]
                  go_big_quiet_on)
               | (refine quiet_yield (v := ?_) ?_ ?_
                  rotate_left
                  · intro W hW
                    have x0w := kept hW x0w
                    clear hW
                    go_simp
                    try with_reducible rfl
                  simp only [Act.put, List.setIfInBounds_toArray, List.set_cons_zero, List.set_cons_succ]
                  go_big_quiet_on)))
        refine wpQuiet_nil ?_
        intro W hW
        have HW := hide (chain HB.out hW)
        have hown2 := (HO.out.below hW).alloc (.cells #[.int .i64 (x : Int)] 3)
        have hbz := HW.out.size
        have hb3 := HW.out.alloc hbz (.cells #[.int .i64 (x : Int)] 3)
        have HN := hide (HREL.out.next HGET.out HG2.out)
        clear hW c0 x0w
        go_wp2_with (at_builtin; refine wpList_app rfl (.tmp 40) (.tmp 42) 36 rfl elInt (B := w.heap.size) (news := (castL [x]).map encI) rfl hown2 rfl rfl (sl_of_blk (Blk.new W 3 #[.int .i64 (x : Int)])) (okI _) (by unfold maxLen; omega) (by omega) (by simp; omega) ?_; intro A2 c2 w3 ho hg hA)
        have HO2 := hide ho
        have H3 := hide (hb3.grown hg (by simp; omega) (fun k e => (hown2.lt k e).1))
        clear ho hg hA hown2 hb3
        go_roundw
        case rel => exact ⟨j + 1, A2, c2, out ++ [x], by omega, by simp [HOL.out], by go_num, rfl, by rw [castL, List.map_append, List.map_append]; exact HO2.out, HN.out, H3.out⟩
        case measure => simp [RowKit.intOf]; omega
      · go_upto_region 6 with fail
        refine wp_region_class (fun W => Below wr.heap.size wr W) (by kernel_rfl) (by kernel_rfl) (Below.refl _ _).drew ?_
        repeat (first
          | go_big_quiet_skip
          | (go_big_quiet_want
             first
               | (go_big_quiet_op
                  go_big_quiet_on)
               | (refine quiet_call (v := .tuple #[.int .i64 (x : Int), .iface 144 (.agg #[.int .i64 5])]) (f := 52) (args := #[.int .i64 (a : Int), .slice Bc (nF - p) (capF - p)]) ?_ ?_ ?_
                  · intro W hW
                    have x0w := kept hW x0w
                    clear hW
                    go_simp
                    done
                  · intro W hW
                    exact grow_b HCUT.out HD.out (by omega) (chain HB.out hW) hW HG.out
                  simp only [Act.put, List.setIfInBounds_toArray, List.set_cons_zero, List.set_cons_succ]
                  go_big_quiet_on)
               | (refine quiet_yield (v := ?_) ?_ ?_
                  rotate_left
                  · intro W hW
                    have x0w := kept hW x0w
                    clear hW
                    go_simp
                    try with_reducible rfl
                  simp only [Act.put, List.setIfInBounds_toArray, List.set_cons_zero, List.set_cons_succ]
                  go_big_quiet_on)))
        refine wpQuiet_nil ?_
        intro W hW
        have HW := hide (chain HB.out hW)
        have HN := hide (HREL.out.stop_ HGET.out HG2.out)
        clear hW c0 x0w
        go_wp2_with fail
        go_ret2
        rw [HN.out]
        exact ⟨fun h => absurd h (by decide), fun _ => ⟨j, rfl⟩, HW.out⟩
    · obtain rfl : j = M.length := by omega
      have hk1 : ¬ (((M.length : Nat) : Int) < (M.length : Int)) := by omega
      have HN := hide (show allN F (allM M) = (out, 0) from AllRel.done (by rw [allM_len]; exact HREL.out))
      go_wp2_with fail
      go_ret2
      rw [HN.out]
      refine ⟨fun _ => ⟨A', c', by simp only [HOL.out]; rfl, by simp only [HOL.out]; exact HO.out⟩, fun h => absurd rfl h, HB.out⟩
end Go.Proofs.YtmfohnchnbgbaaaGreatDoor

/- errors.As at this program's errors. -/
namespace Go.Proofs.YtmfohnchnbgbaaaGreatDoor
open Go.RowKit Go.Extern.Stop Go.Stop Go.Extern

theorem as_nil (t : Value) (w : World) : Calls Tryz.prog 53 #[.nilIface, t] w fun e w' => e = .returned (.bool false) ∧ w' = w := by
  go_enter Tryz.func53, Tryz.ntmps53
  go_wp2
  go_ret
  exact ⟨rfl, rfl⟩

/-! ### Closed facts on the model's entries for internal/reflectlite, at this program's types -/
theorem rl_valueOf60 (t : Addr) (w : World) : (ReflectliteValue.unpack (.iface 146 (.pointer (some t)))).run Tryz.prog w
    = .ok (.agg #[.pointer (some ⟨3, 146, none⟩), .pointer (some ⟨w.heap.size, 0, none⟩), .int .u64 150]) (w.alloc (.cells #[.pointer (some t)] 146)) := by kernel_rfl
theorem rl_type60 (a : Addr) (w : World) : (ReflectliteValue.methodAny (ReflectliteValue.valueError "reflectlite.Value.Type" 0) (fun t _ _ _ => ReflectliteType.toType t) #[.agg #[.pointer (some ⟨3, 146, none⟩), .pointer (some a), .int .u64 150]]).run Tryz.prog w
    = .ok (.iface 249 (.agg #[.pointer (some ⟨3, 146, none⟩)])) w := by kernel_rfl
theorem rl_kind60 (w : World) : ((ReflectliteType.abiMethod fun t => (fun a : Nat => Value.int IntKind.u8 (a : Int)) <$> Rtype.kind t) #[.pointer (some ⟨3, 146, none⟩)]).run Tryz.prog w = .ok (.int .u8 22) w := by kernel_rfl
theorem rl_kind58 (w : World) : ((ReflectliteType.abiMethod fun t => (fun a : Nat => Value.int IntKind.u8 (a : Int)) <$> Rtype.kind t) #[.pointer (some ⟨3, 144, none⟩)]).run Tryz.prog w = .ok (.int .u8 25) w := by kernel_rfl
theorem rlm (z : Sem Value) (f : TypeId → Addr → Nat → Nat → Sem Value) (v : Value) :
    ReflectliteValue.method z f #[v] = (do match ← ReflectliteValue.parts v with | none => z | some (t, a, fl) => f t a fl (fl % 32)) := rfl
theorem rl_parts60 (a : Addr) (w : World) : (ReflectliteValue.parts (.agg #[.pointer (some ⟨3, 146, none⟩), .pointer (some a), .int .u64 150])).run Tryz.prog w = .ok (some (146, a, 150)) w := by kernel_rfl
theorem rl_isNil60 (a p : Addr) (W : World) (ha : W.cell? a = some (.pointer (some p))) :
    (ReflectliteValue.method (ReflectliteValue.valueError "reflectlite.Value.IsNil" 0) ReflectliteValue.isNil #[.agg #[.pointer (some ⟨3, 146, none⟩), .pointer (some a), .int .u64 150]]).run Tryz.prog W = .ok (.bool false) W := by
  rw [rlm]
  simp only [Sem.run_bind, rl_parts60, Result.andThen]
  simp [ReflectliteValue.isNil, loadVar, isAgg, underlying, Tryz.underlying146, ha, Result.andThen]
theorem rl_elem60 (w : World) : (ReflectliteType.method ReflectliteType.elem #[.agg #[.pointer (some ⟨3, 146, none⟩)]]).run Tryz.prog w = .ok (.iface 249 (.agg #[.pointer (some ⟨3, 144, none⟩)])) w := by kernel_rfl
theorem rl_implements58 (w : World) : (ReflectliteType.relation "Implements" ReflectliteType.implements_ #[.agg #[.pointer (some ⟨3, 144, none⟩)], .iface 249 (.agg #[.pointer (some ⟨3, 90, none⟩)])]).run Tryz.prog w = .ok (.bool true) w := by kernel_rfl
theorem rl_typeOf (T : TypeId) (v : Value) (w : World) (h : T = 144 ∨ T = 142) : (ReflectliteType.typeOf #[.iface T v]).run Tryz.prog w = .ok (.iface 249 (.agg #[.pointer (some ⟨3, T, none⟩)])) w := by
  rcases h with rfl | rfl <;> kernel_rfl
theorem rl_assign58 (w : World) : (ReflectliteType.relation "AssignableTo" ReflectliteType.assignableTo #[.agg #[.pointer (some ⟨3, 144, none⟩)], .iface 249 (.agg #[.pointer (some ⟨3, 144, none⟩)])]).run Tryz.prog w = .ok (.bool true) w := by kernel_rfl
theorem rl_assign56 (w : World) : (ReflectliteType.relation "AssignableTo" ReflectliteType.assignableTo #[.agg #[.pointer (some ⟨3, 142, none⟩)], .iface 249 (.agg #[.pointer (some ⟨3, 144, none⟩)])]).run Tryz.prog w = .ok (.bool false) w := by kernel_rfl
theorem rl_valueOf58 (n : Int) (w : World) : (ReflectliteValue.unpack (.iface 144 (.agg #[.int .i64 n]))).run Tryz.prog w
    = .ok (.agg #[.pointer (some ⟨3, 144, none⟩), .pointer (some ⟨w.heap.size, 0, none⟩), .int .u64 153]) (w.alloc (.cells #[.int .i64 n] 144)) := by kernel_rfl
theorem rl_elemOf60 (w : World) : (Rtype.elem? 146).run Tryz.prog w = .ok (some 144) w := by kernel_rfl
theorem rl_mk58 (p : Addr) (w : World) : (ReflectliteValue.mk 144 p ReflectliteValue.flagAddr).run Tryz.prog w = .ok (.agg #[.pointer (some ⟨3, 144, none⟩), .pointer (some p), .int .u64 409]) w := by kernel_rfl
theorem rl_elemV60 (a p : Addr) (W : World) (ha : W.cell? a = some (.pointer (some p))) :
    (ReflectliteValue.method (ReflectliteValue.valueError "reflectlite.Value.Elem" 0) ReflectliteValue.elem #[.agg #[.pointer (some ⟨3, 146, none⟩), .pointer (some a), .int .u64 150]]).run Tryz.prog W
      = .ok (.agg #[.pointer (some ⟨3, 144, none⟩), .pointer (some p), .int .u64 409]) W := by
  rw [rlm]
  simp only [Sem.run_bind, rl_parts60, Result.andThen]
  simp [ReflectliteValue.elem, loadVar, isAgg, underlying, Tryz.underlying146, ha, Result.andThen, rl_elemOf60, rl_mk58]
theorem rl_methodKind (h : Value) (w : World) : (Go.method 417 249 (.agg #[h]) "Kind").run Tryz.prog w = .ok (195, h) w := by kernel_rfl
theorem rl_methodElem (h : Value) (w : World) : (Go.method 417 249 (.agg #[h]) "Elem").run Tryz.prog w = .ok (207, .agg #[h]) w := by kernel_rfl
theorem rl_methodImplements (h : Value) (w : World) : (Go.method 417 249 (.agg #[h]) "Implements").run Tryz.prog w = .ok (208, .agg #[h]) w := by kernel_rfl
theorem rl_methodAssignableTo (h : Value) (w : World) : (Go.method 417 249 (.agg #[h]) "AssignableTo").run Tryz.prog w = .ok (205, .agg #[h]) w := by kernel_rfl
theorem rl_methodUnwrap (a b : Value) (w : World) : (Go.method 417 142 (.agg #[a, b]) "Unwrap").run Tryz.prog w = .ok (199, .agg #[a, b]) w := by kernel_rfl
theorem rls (v x : Value) : ReflectliteValue.set #[v, x] = (do
    let (some (dst, a, fl), some (src, b, _)) := (← ReflectliteValue.parts v, ← ReflectliteValue.parts x)
      | unsupported (.noEntry "extern/(internal/reflectlite.Value).Set.zeroValue")
    if fl / ReflectliteValue.flagAddr % 2 == 0 then unsupported (.noEntry "extern/(internal/reflectlite.Value).Set.unaddressable")
    let val ← loadVar src b
    if ← Rtype.directlyAssignable dst src then storeVar dst a val
    else if ← Rtype.implements dst src then
      if (← Rtype.kind src) == 20 then
        match val with
        | .nilIface => unsupported (.noEntry "extern/reflectlite: a nil value of one interface type handed on as a value of another")
        | _ => storeVar dst a val
      else storeVar dst a (.iface src val)
    else panicString ("reflectlite.Set: value of type " ++ (← Rtype.spelt src) ++ " is not assignable to type " ++ (← Rtype.spelt dst))
    pure (.tuple #[])) := rfl
theorem rl_parts58a (a : Addr) (w : World) : (ReflectliteValue.parts (.agg #[.pointer (some ⟨3, 144, none⟩), .pointer (some a), .int .u64 409])).run Tryz.prog w = .ok (some (144, a, 409)) w := by kernel_rfl
theorem rl_parts58 (a : Addr) (w : World) : (ReflectliteValue.parts (.agg #[.pointer (some ⟨3, 144, none⟩), .pointer (some a), .int .u64 153])).run Tryz.prog w = .ok (some (144, a, 153)) w := by kernel_rfl
theorem rl_direct58 (w : World) : (Rtype.directlyAssignable 144 144).run Tryz.prog w = .ok true w := by kernel_rfl
/-- (Value).Set: the fault at t gets what the Value's own variable at b holds. -/
theorem rl_set58 (t b : Nat) (n : Int) (old : Value) (W : World) (hb : Blk W b 144 #[.int .i64 n]) (ht : W.cell? ⟨t, 0, none⟩ = some old) (hf : W.frozen? ⟨t, 0, none⟩ = false) :
    (ReflectliteValue.set #[.agg #[.pointer (some ⟨3, 144, none⟩), .pointer (some ⟨t, 0, none⟩), .int .u64 409], .agg #[.pointer (some ⟨3, 144, none⟩), .pointer (some ⟨b, 0, none⟩), .int .u64 153]]).run Tryz.prog W
      = .ok (.tuple #[]) (W.setCell ⟨t, 0, none⟩ (.int .i64 n)) := by
  rw [rls]
  simp only [Sem.run_bind, rl_parts58a, rl_parts58, Result.andThen]
  simp [ReflectliteValue.flagAddr, run_loadVar_row W b 144 144 #[.int .i64 n] (0, 0) _ hb Tryz.underlying144 rfl (by kernel_rfl), Result.andThen, rl_direct58, storeVar, Value.cells, storeCells, Addr.add]
  rw [run_store Tryz.prog W ⟨t, 0, none⟩ _ _ (by rfl)]
  simp [ht, hf]
end Go.Proofs.YtmfohnchnbgbaaaGreatDoor
