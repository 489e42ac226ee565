/- Versions and tariffs: how they lie; whether numbers may be factors. -/
import Derived.Test.YtaboachegclaiaaTarBd
import Derived.Test.YtaboachegclaiaaMem2
import Derived.Test.YtaboachegclaiaaOpen
import Derived.Deep.RegionWith
import Derived.Laws.EntriesVeiled
namespace Go.Proofs.Ytaboachegclaiaa
open Go.ChangeShapes Go.WideShapes Go.ChangeAt Go.RowKit

theorem own : ownKnob Try.prog.godebug = none := by kernel_rfl
theorem laidOut : laidOutB Try.prog = true := by kernel_rfl

def encI (n : Int) : List Value := [.int .i64 n]
def ok64 (n : Int) : Prop := -9223372036854775808 ≤ n ∧ n ≤ 9223372036854775807
theorem Sl.i {w : World} {B k : Nat} {A : Option Addr} {l : List Int} {n : Int} (h : Sl w B 1 A (l.map encI)) (hx : l[k]? = some n) :
    ∃ b off, A = some ⟨b, off, none⟩ ∧ b < B ∧ w.cell? ⟨b, off + k, none⟩ = some (.int .i64 n) := by
  obtain ⟨b, off, hA, hb, hc⟩ := h k (encI n) (by simp [hx])
  exact ⟨b, off, hA, hb, by simpa using hc 0 _ rfl⟩

/-- A version, where it lies. -/
structure Vw where
  f : Int
  b0 : Int
  b1 : Int
  b2 : Int
  b3 : Int
  aA : Option Addr
  age : List Bd
  aC : Nat
  zA : Option Addr
  zone : List Int
  zC : Nat
  pA : Option Addr
  peril : List Int
  pC : Nat
  mn : Int
def encV (v : Vw) : List Value := [.int .i64 v.f, .int .i64 v.b0, .int .i64 v.b1, .int .i64 v.b2, .int .i64 v.b3, .slice v.aA v.age.length v.aC, .slice v.zA v.zone.length v.zC, .slice v.pA v.peril.length v.pC, .int .i64 v.mn]
/-- A version. -/
structure Ver where
  f : Int
  b0 : Int
  b1 : Int
  b2 : Int
  b3 : Int
  age : List Bd
  zone : List Int
  peril : List Int
  mn : Int
def Vw.v (x : Vw) : Ver := ⟨x.f, x.b0, x.b1, x.b2, x.b3, x.age, x.zone, x.peril, x.mn⟩
structure VOK (w : World) (v : Vw) : Prop where
  age : SV w 2 v.aA v.age.length v.aC (v.age.map encBd)
  zone : SV w 1 v.zA v.zone.length v.zC (v.zone.map encI)
  peril : SV w 1 v.pA v.peril.length v.pC (v.peril.map encI)
theorem VOK.below {w w' : World} {v : Vw} (h : VOK w v) (hb : Below w.heap.size w w') : VOK w' v := ⟨h.age.below hb, h.zone.below hb, h.peril.below hb⟩
/-- A slice of versions. -/
structure TV (w : World) (A : Option Addr) (n cap : Nat) (M : List Vw) : Prop where
  sv : SV w 9 A n cap (M.map encV)
  rows : ∀ v ∈ M, VOK w v
theorem TV.below {w w' : World} {A : Option Addr} {n cap : Nat} {M : List Vw} (h : TV w A n cap M) (hb : Below w.heap.size w w') : TV w' A n cap M := ⟨h.sv.below hb, fun v hv => (h.rows v hv).below hb⟩
theorem TV.len {w : World} {A : Option Addr} {n cap : Nat} {M : List Vw} (h : TV w A n cap M) : M.length = n := by have := h.sv.len; simpa using this
def allV (M : List Vw) : List Ver := M.map Vw.v

theorem cells_int : Try.prog.cellsOf 3 = 1 := by kernel_rfl
theorem cells_band : Try.prog.cellsOf 63 = 2 := by kernel_rfl
theorem cells_ver : Try.prog.cellsOf 26 = 9 := by kernel_rfl
theorem cells_tar : Try.prog.cellsOf 29 = 1 := by kernel_rfl
theorem leaves_int : leaves Try.prog 1 3 = some [.int .i64] := by kernel_rfl
theorem leaves_band : leaves Try.prog 2 63 = some [.int .i64, .int .i64] := by kernel_rfl
theorem leaves_ver : leaves Try.prog 3 26 = some [.int .i64, .int .i64, .int .i64, .int .i64, .int .i64, .slice 63, .slice 3, .slice 3, .int .i64] := by kernel_rfl
theorem leaves_tar : leaves Try.prog 2 29 = some [.slice 26] := by kernel_rfl
def okVw (v : Vw) : Prop := ok64 v.f ∧ ok64 v.mn
section
variable {H : Type} {enc : TypeId × Value → H} {W : World} {r : Reach} {b0 : Nat} {v : Value} {d : DataW H} {p : List MemPlace}
theorem rows_ints (h : LeafOk enc Try.prog W (.slice 3) v) : ∃ (A : Option Addr) (l : List Int) (cap : Nat), v = .slice A l.length cap ∧ SV W 1 A l.length cap (l.map encI) := by
  obtain ⟨A, l, cap, hv, h1, h2, h3, _, h5⟩ := rows_of enc Try.prog W (α := Int) 1 1 encI ok64 leaves_int cells_int rfl (by omega) (fun cs hl => by
    obtain ⟨n1, l1, rfl, w1, h1⟩ := leaf_int enc _ _ hl
    obtain rfl := allLeaf_nil enc _ _ h1
    exact ⟨n1, rfl, wf64 w1⟩) h
  exact ⟨A, l, cap, hv, ⟨h3, List.length_map _, h1, h2, h5⟩⟩
theorem rows_bands (h : LeafOk enc Try.prog W (.slice 63) v) : ∃ (A : Option Addr) (l : List Bd) (cap : Nat), v = .slice A l.length cap ∧ SV W 2 A l.length cap (l.map encBd) := by
  obtain ⟨A, l, cap, hv, h1, h2, h3, _, h5⟩ := rows_of enc Try.prog W (α := Bd) 2 2 encBd (fun _ => True) leaves_band cells_band rfl (by omega) (fun cs hl => by
    obtain ⟨n1, l1, rfl, w1, h1⟩ := leaf_int enc _ _ hl
    obtain ⟨n2, l2, rfl, w2, h2⟩ := leaf_int enc _ _ h1
    obtain rfl := allLeaf_nil enc _ _ h2
    exact ⟨(n1, n2), rfl, trivial⟩) h
  exact ⟨A, l, cap, hv, ⟨h3, List.length_map _, h1, h2, h5⟩⟩
theorem ver_leaf {cs : List Value} (hl : AllLeaf enc Try.prog W [.int .i64, .int .i64, .int .i64, .int .i64, .int .i64, .slice 63, .slice 3, .slice 3, .int .i64] cs) : ∃ v : Vw, cs = encV v ∧ VOK W v ∧ okVw v := by
  obtain ⟨f, l1, rfl, wf, h1⟩ := leaf_int enc _ _ hl
  obtain ⟨b0, l2, rfl, _, h2⟩ := leaf_int enc _ _ h1
  obtain ⟨b1, l3, rfl, _, h3⟩ := leaf_int enc _ _ h2
  obtain ⟨b2, l4, rfl, _, h4⟩ := leaf_int enc _ _ h3
  obtain ⟨b3, l5, rfl, _, h5⟩ := leaf_int enc _ _ h4
  obtain ⟨va, l6, rfl, ka, h6⟩ := allLeaf_cons enc _ _ h5
  obtain ⟨vz, l7, rfl, kz, h7⟩ := allLeaf_cons enc _ _ h6
  obtain ⟨vp, l8, rfl, kp, h8⟩ := allLeaf_cons enc _ _ h7
  obtain ⟨mn, l9, rfl, wm, h9⟩ := leaf_int enc _ _ h8
  obtain rfl := allLeaf_nil enc _ _ h9
  obtain ⟨aA, age, aC, rfl, ha⟩ := rows_bands ka
  obtain ⟨zA, zone, zC, rfl, hz⟩ := rows_ints kz
  obtain ⟨pA, peril, pC, rfl, hp⟩ := rows_ints kp
  exact ⟨⟨f, b0, b1, b2, b3, aA, age, aC, zA, zone, zC, pA, peril, pC, mn⟩, rfl, ⟨ha, hz, hp⟩, wf64 wf, wf64 wm⟩
theorem open_version (hv : Value.okWide Try.prog W r b0 26 v) (h : DataW.Trod enc Try.prog W 0 (fun _ => true) true 26 v d p) :
    ∃ x : Vw, v = .agg #[.int .i64 x.f, .int .i64 x.b0, .int .i64 x.b1, .int .i64 x.b2, .int .i64 x.b3, .slice x.aA x.age.length x.aC, .slice x.zA x.zone.length x.zC, .slice x.pA x.peril.length x.pC, .int .i64 x.mn] ∧ VOK W x ∧ okVw x := by
  obtain ⟨l, rfl, hl⟩ := top_agg enc Try.prog W 3 Try.underlying26 leaves_ver cells_ver hv h
  obtain ⟨x, rfl, h1, h2⟩ := ver_leaf hl
  exact ⟨x, rfl, h1, h2⟩
theorem open_tariff (hv : Value.okWide Try.prog W r b0 29 v) (h : DataW.Trod enc Try.prog W 0 (fun _ => true) true 29 v d p) :
    ∃ (A : Option Addr) (M : List Vw) (cap : Nat), v = .agg #[.slice A M.length cap] ∧ TV W A M.length cap M ∧ ∀ x ∈ M, okVw x := by
  obtain ⟨l, rfl, hl⟩ := top_agg enc Try.prog W 2 Try.underlying29 leaves_tar cells_tar hv h
  obtain ⟨v1, l1, rfl, k1, h1⟩ := allLeaf_cons enc _ _ hl
  obtain rfl := allLeaf_nil enc _ _ h1
  obtain ⟨A, M, cap, rfl, g1, g2, g3, g4, g5⟩ := rows_of enc Try.prog W (α := Vw) 3 9 encV (fun v => VOK W v ∧ okVw v) leaves_ver cells_ver rfl (by omega) (fun cs hl => by
    obtain ⟨x, rfl, h1, h2⟩ := ver_leaf hl
    exact ⟨x, rfl, h1, h2⟩) k1
  exact ⟨A, M, cap, rfl, ⟨⟨g3, List.length_map _, g1, g2, g5⟩, fun v hv => (g4 v hv).1⟩, fun v hv => (g4 v hv).2⟩
end

/-! ### Factors -/
def facB (l : List Int) : Bool := l.all fun x => decide (0 ≤ x ∧ x ≤ 100000)
theorem fac1_any (x : Int) (w : World) : Calls Try.prog 35 #[.int .i64 x] w fun e w' => e = .returned (.bool (!decide (0 ≤ x ∧ x ≤ 100000))) ∧ w = w' := by
  go_enter Try.func35, Try.ntmps35
  go_wp2
  all_goals
    go_ret
    exact ⟨ret_bool (by rw [Bool.eq_iff_iff]; simp <;> omega), rfl⟩
theorem facB_take {l : List Int} {k : Nat} {x : Int} (h : l[k]? = some x) : facB (l.take (k + 1)) = (facB (l.take k) && decide (0 ≤ x ∧ x ≤ 100000)) := by rw [take_of h]; simp [facB]
theorem facB_no {l : List Int} {k : Nat} {x : Int} (h : l[k]? = some x) (hx : ¬(0 ≤ x ∧ x ≤ 100000)) : facB l = false := by
  rw [facB, List.all_eq_false]
  exact ⟨x, List.mem_of_getElem? h, by simpa using hx⟩
set_option maxHeartbeats 1000000 in
theorem idx_any (A : Option Addr) (cap : Nat) (l : List Int) (w : World) (hs : SV w 1 A l.length cap (l.map encI)) :
    Calls Try.prog 42 #[.slice A l.length cap, .func (.func 35) #[] #[]] w fun e w' => (∃ i : Int, e = .returned (.int .i64 i) ∧ (decide (0 ≤ i) = !facB l)) ∧ w = w' := by
  have HS := hide hs
  have hmx := hs.le
  have hmy := hs.most
  unfold maxLen at hmy
  clear hs
  go_enter Try.func42, Try.ntmps42
  go_wp2_with fail
  go_loop [8] (fun i => ∃ k : Nat, k ≤ l.length ∧ i = .int .i64 k ∧ facB (l.take k) = true) (fun i => l.length - (intOf i).toNat)
  case atStart => exact ⟨0, Nat.zero_le _, rfl, rfl⟩
  case round =>
    obtain ⟨k, hk, rfl, hok⟩ := hrel
    have HOK := hide hok
    clear hok
    by_cases hlt : k < l.length
    · obtain ⟨x, hx⟩ := get_of hlt
      obtain ⟨bb, off, rfl, hbl, hc⟩ := HS.out.sl.i hx
      have hk0 : (0 : Int) ≤ (k : Int) := by omega
      have hk1 : (k : Int) < (l.length : Int) := by omega
      have HX := hide hx
      clear hx
      go_wp2_with fail
      refine (fac1_any x _).mono ?_
      rintro e w' ⟨rfl, rfl⟩
      by_cases hg : 0 ≤ x ∧ x ≤ 100000
      · have hd : decide (0 ≤ x ∧ x ≤ 100000) = true := by simp; omega
        have HT := hide (show facB (l.take (k + 1)) = true by rw [facB_take HX.out, HOK.out, hd]; rfl)
        rw [hd]
        clear hd hg
        go_wp2_with fail
        go_round
        case rel => exact ⟨k + 1, by omega, by go_num, HT.out⟩
        case measure => simp [intOf]; omega
      · have hd : decide (0 ≤ x ∧ x ≤ 100000) = false := by simp; omega
        have HT := hide (facB_no HX.out hg)
        rw [hd]
        clear hd hg
        go_wp2_with fail
        go_ret
        exact ⟨⟨k, rfl, by rw [HT.out]; simp⟩, rfl⟩
    · obtain rfl : k = l.length := by omega
      rw [List.take_length] at HOK
      go_wp2_with fail
      go_ret
      exact ⟨⟨-1, rfl, by rw [HOK.out]; rfl⟩, rfl⟩
theorem cont_any (A : Option Addr) (cap : Nat) (l : List Int) (w : World) (hs : SV w 1 A l.length cap (l.map encI)) :
    Calls Try.prog 34 #[.slice A l.length cap, .func (.func 35) #[] #[]] w fun e w' => e = .returned (.bool (!facB l)) ∧ w = w' := by
  have HS := hide hs
  clear hs
  go_enter Try.func34, Try.ntmps34
  go_wp2_with fail
  refine (idx_any A cap l _ HS.out).mono ?_
  rintro e w1 ⟨⟨i, rfl, hi⟩, rfl⟩
  have HI := hide hi
  clear hi
  go_wp2_with fail
  go_ret
  exact ⟨ret_bool HI.out, rfl⟩
theorem factors_any (A : Option Addr) (cap n : Nat) (l : List Int) (w : World) (hs : SV w 1 A n cap (l.map encI)) :
    Calls Try.prog 20 #[.slice A n cap] w fun e w' => e = .returned (.bool (facB l)) ∧ w = w' := by
  have hn : l.length = n := by have := hs.len; simpa using this
  subst hn
  have HS := hide hs
  clear hs
  go_enter Try.func20, Try.ntmps20
  go_wp2_with fail
  refine (cont_any A cap l _ HS.out).mono ?_
  rintro e w1 ⟨rfl, rfl⟩
  go_wp2_with fail
  go_ret
  exact ⟨ret_bool (by simp), rfl⟩
set_option maxHeartbeats 1000000 in
theorem factorsR_any (A : Option Addr) (cap n : Nat) (l : List Int) (w : World) (hs : SV w 1 A n cap (l.map encI)) :
    Calls Try.prog 23 #[.slice A n cap] w fun e w' => e = .returned (.bool (facB l)) ∧ w = w' := by
  have hn : l.length = n := by have := hs.len; simpa using this
  subst hn
  have HS := hide hs
  have hmx := hs.le
  have hmy := hs.most
  unfold maxLen at hmy
  clear hs
  go_enter Try.func23, Try.ntmps23
  go_wp2_with fail
  go_loop [3] (fun i => ∃ k : Nat, k ≤ l.length ∧ i = .int .i64 k ∧ facB (l.take k) = true) (fun i => l.length - (intOf i).toNat)
  case atStart => exact ⟨0, Nat.zero_le _, rfl, rfl⟩
  case round =>
    obtain ⟨k, hk, rfl, hok⟩ := hrel
    have HOK := hide hok
    clear hok
    by_cases hlt : k < l.length
    · obtain ⟨x, hx⟩ := get_of hlt
      obtain ⟨bb, off, rfl, hbl, hc⟩ := HS.out.sl.i hx
      have hk0 : (0 : Int) ≤ (k : Int) := by omega
      have hk1 : (k : Int) < (l.length : Int) := by omega
      have HX := hide hx
      clear hx
      rcases (show x < 0 ∨ (0 ≤ x ∧ 100000 < x) ∨ (0 ≤ x ∧ x ≤ 100000) by omega) with hg | ⟨hg, hg'⟩ | ⟨hg, hg'⟩
      · have HT := hide (facB_no HX.out (by omega))
        go_wp2_with fail
        go_ret
        exact ⟨ret_bool HT.out.symm, rfl⟩
      · have HT := hide (facB_no HX.out (by omega))
        go_wp2_with fail
        go_ret
        exact ⟨ret_bool HT.out.symm, rfl⟩
      · have HT := hide (show facB (l.take (k + 1)) = true by rw [facB_take HX.out, HOK.out]; simp; omega)
        go_wp2_with fail
        go_round
        case rel => exact ⟨k + 1, by omega, by go_num, HT.out⟩
        case measure => simp [intOf]; omega
    · obtain rfl : k = l.length := by omega
      rw [List.take_length] at HOK
      go_wp2_with fail
      go_ret
      exact ⟨ret_bool HOK.out.symm, rfl⟩
end Go.Proofs.Ytaboachegclaiaa
