/- Part 3 of the proof. -/
import Derived.Deep.RegionWith
import Derived.StillTailTactics
import Derived.Laws.EntriesVeiled
import Derived.BigQuiet
import Derived.Deep.QuietTactic
import Derived.Deep.DeepCutAuto
import Derived.Deep.DeepMust
import Derived.WalkSpells
import Derived.Test.YtmfohnchnbgbaaaGreatTcM01
import Derived.Test.YtmfohnchnbgbaaaGreatTcM02
/- How a file stands: the program's fold over the acts. -/
namespace Go.Proofs.YtmfohnchnbgbaaaGreat
open Go.RowKit

structure St where
  g : Int
  s : Int
  b : Int
  o : Bool
def stepP (p : St) (a : Ac) : St :=
  if a.k = 1 then ⟨a.m, p.s, p.b, p.o⟩ else if a.k = 2 then ⟨p.g, wrap64 (p.s + a.m), p.b, p.o⟩ else if a.k = 3 then ⟨p.g, p.s, wrap64 (p.b + a.m), p.o⟩
  else if a.k = 4 then ⟨p.g, p.s, p.b, false⟩ else if a.k = 5 then ⟨p.g, p.s, p.b, true⟩ else p
def standP (l : List Ac) : St := l.foldl stepP ⟨0, 0, 0, true⟩
theorem standP_snoc (l : List Ac) (a : Ac) : standP (l ++ [a]) = stepP (standP l) a := by simp [standP]
theorem standP_take {l : List Ac} {k : Nat} {a : Ac} (h : l[k]? = some a) : standP (l.take (k + 1)) = stepP (standP (l.take k)) a := by rw [take_of h, standP_snoc]
def St.cells (p : St) : Array Value := #[.int .i64 p.g, .int .i64 p.s, .int .i64 0, .int .i64 p.b, .int .i64 0, .bool p.o]

theorem Sl.ac {w : World} {B k : Nat} {A : Option Addr} {l : List Ac} {a : Ac} (h : Sl w B 3 A (l.map encAc)) (hx : l[k]? = some a) :
    ∃ b off, A = some ⟨b, off, none⟩ ∧ b < B ∧ w.cell? ⟨b, off + k * 3, none⟩ = some (.int .i64 a.b) ∧ w.cell? ⟨b, off + k * 3 + 1, none⟩ = some (.int .i64 a.k) ∧ w.cell? ⟨b, off + k * 3 + 2, none⟩ = some (.int .i64 a.m) := by
  obtain ⟨b, off, hA, hb, hc⟩ := h k (encAc a) (by simp [hx])
  exact ⟨b, off, hA, hb, hc 0 _ rfl, hc 1 _ rfl, hc 2 _ rfl⟩

def doesC : Array Value := #[.nilFunc, .func (Fn.func 121) #[] #[], .func (Fn.func 122) #[] #[], .func (Fn.func 123) #[] #[], .func (Fn.func 124) #[] #[], .func (Fn.func 125) #[] #[]]
def zeroC : Array Value := #[.int .i64 0, .int .i64 0, .int .i64 0, .int .i64 0, .int .i64 0, .bool false]

theorem gross_any (b : Nat) (m : Int) (t : TypeId) (p : St) (w : World) (hb : Blk w b t p.cells) :
    Calls Tryz.prog 121 #[.pointer (some ⟨b, 0, none⟩), .int .i64 m] w fun e w' => e = .returned (.tuple #[]) ∧ w.setCell ⟨b, 0, none⟩ (.int .i64 m) = w' := by
  have hc := hb.cell 0
  have hf := hb.frozen 0
  simp [St.cells] at hc
  go_enter Tryz.func121, Tryz.ntmps121
  go_wp2
  go_end0
  exact ⟨rfl, rfl⟩
theorem pay_any (b : Nat) (m : Int) (t : TypeId) (p : St) (w : World) (hb : Blk w b t p.cells) :
    Calls Tryz.prog 122 #[.pointer (some ⟨b, 0, none⟩), .int .i64 m] w fun e w' => e = .returned (.tuple #[]) ∧ w.setCell ⟨b, 1, none⟩ (.int .i64 (wrap64 (p.s + m))) = w' := by
  have hc := hb.cell 1
  have hf := hb.frozen 1
  simp [St.cells] at hc
  go_enter Tryz.func122, Tryz.ntmps122
  go_wp2
  go_end0
  exact ⟨rfl, rfl⟩
theorem recover_any (b : Nat) (m : Int) (t : TypeId) (p : St) (w : World) (hb : Blk w b t p.cells) :
    Calls Tryz.prog 123 #[.pointer (some ⟨b, 0, none⟩), .int .i64 m] w fun e w' => e = .returned (.tuple #[]) ∧ w.setCell ⟨b, 3, none⟩ (.int .i64 (wrap64 (p.b + m))) = w' := by
  have hc := hb.cell 3
  have hf := hb.frozen 3
  simp [St.cells] at hc
  go_enter Tryz.func123, Tryz.ntmps123
  go_wp2
  go_end0
  exact ⟨rfl, rfl⟩
theorem close_any (b : Nat) (m : Int) (t : TypeId) (p : St) (w : World) (hb : Blk w b t p.cells) :
    Calls Tryz.prog 124 #[.pointer (some ⟨b, 0, none⟩), .int .i64 m] w fun e w' => e = .returned (.tuple #[]) ∧ w.setCell ⟨b, 5, none⟩ (.bool false) = w' := by
  have hc := hb.cell 5
  have hf := hb.frozen 5
  simp [St.cells] at hc
  go_enter Tryz.func124, Tryz.ntmps124
  go_wp2
  go_end0
  exact ⟨rfl, rfl⟩
theorem reopen_any (b : Nat) (m : Int) (t : TypeId) (p : St) (w : World) (hb : Blk w b t p.cells) :
    Calls Tryz.prog 125 #[.pointer (some ⟨b, 0, none⟩), .int .i64 m] w fun e w' => e = .returned (.tuple #[]) ∧ w.setCell ⟨b, 5, none⟩ (.bool true) = w' := by
  have hc := hb.cell 5
  have hf := hb.frozen 5
  simp [St.cells] at hc
  go_enter Tryz.func125, Tryz.ntmps125
  go_wp2
  go_end0
  exact ⟨rfl, rfl⟩

theorem zero_to (p : St) : (((((zeroC.setIfInBounds 0 (.int .i64 p.g)).setIfInBounds 1 (.int .i64 p.s)).setIfInBounds 2 (.int .i64 0)).setIfInBounds 3 (.int .i64 p.b)).setIfInBounds 4 (.int .i64 0)).setIfInBounds 5 (.bool p.o) = p.cells := by
  simp [zeroC, St.cells]

set_option maxHeartbeats 2000000 in
theorem stand_any (c : Cl) (A : Option Addr) (cap : Nat) (l : List Ac) (w : World) (hl : Sl w w.heap.size 3 A (l.map encAc)) (hm : l.length ≤ 9223372036854775807) :
    Calls Tryz.prog 64 #[.agg #[.int .i64 c.id, .int .i64 c.pol, .int .i64 c.per, .int .i64 c.loss, .int .i64 c.bkd, .int .i64 c.ev, .slice A l.length cap]] w
      fun e w' => e = .returned (.agg (standP l).cells) ∧ Below w.heap.size w w' := by
  have HL := hide hl
  clear hl
  go_enter Tryz.func64, Tryz.ntmps64
  go_wp2
  go_loopw [12] (fun i wr => ∃ k : Nat, k ≤ l.length ∧ i = .int .i64 k ∧ Blk wr (w.heap.size + 1 + 1 + 1) 162 (standP (l.take k)).cells ∧ Blk wr (w.heap.size + 1 + 1) 226 doesC ∧ Blk wr (w.heap.size + 1) 162 zeroC ∧ Below w.heap.size w wr)
    (fun i _ => l.length - (intOf i).toNat)
  case atStart => exact ⟨0, Nat.zero_le _, rfl, Blk.new' (by simp), (Blk.new' (by simp)).alloc _, ((Blk.new' (by simp)).alloc _).alloc _, ((((Below.refl _ _).alloc (Nat.le_refl _) _).alloc (by simp) _).alloc (by simp; omega) _).alloc (by simp; omega) _⟩
  case round =>
    obtain ⟨k, hk, rfl, hp, hd, hz, hb⟩ := hrel
    have hlp := hp.lt
    have hlp2 : w.heap.size + 1 + 1 < wr.heap.size := by omega
    by_cases hlt : k < l.length
    · obtain ⟨⟨ab, ak, am⟩, hx⟩ := get_of hlt
      obtain ⟨bb, off, rfl, hbl, hc0, hc1, hc2⟩ := ((HL.out.below hb).more hb.size).ac hx
      simp only at hc0 hc1 hc2
      rcases kinds ak with rfl | rfl | rfl | rfl | rfl | hkk
      · have hw := (show wiB 1 1 5 = true by decide)
        have d1 := hd.cell 1
        simp [doesC] at d1
        have HX := hide (standP_take hx)
        clear hx
        go_wp2_with (go_at_call 126; refine (within_any _ _ _ _).mono ?_; rintro e w' ⟨rfl, rfl⟩)
        go_region_with (go_at_call 121; refine (gross_any _ _ _ _ _ ((hp.alloc _).drew)).mono ?_; rintro e w' ⟨rfl, rfl⟩)
        all_goals
          go_wp2_with fail
          go_roundw
          case rel => exact ⟨k + 1, by omega, by go_num, by rw [HX.out]; exact (((hp.set_ 0 _).alloc _).drew), ((hd.far (by simp) _).alloc _).drew, ((hz.far (by simp) _).alloc _).drew, ((hb.setCell (by simp; omega) _).alloc (by have := hb.size; simpa [World.setCell] using this) _).drew⟩
          case measure => simp [intOf]; omega
      · have hw := (show wiB 2 1 5 = true by decide)
        have d1 := hd.cell 2
        simp [doesC] at d1
        have HX := hide (standP_take hx)
        clear hx
        go_wp2_with (go_at_call 126; refine (within_any _ _ _ _).mono ?_; rintro e w' ⟨rfl, rfl⟩)
        go_region_with (go_at_call 122; refine (pay_any _ _ _ _ _ ((hp.alloc _).drew)).mono ?_; rintro e w' ⟨rfl, rfl⟩)
        all_goals
          go_wp2_with fail
          go_roundw
          case rel => exact ⟨k + 1, by omega, by go_num, by rw [HX.out]; exact (((hp.set_ 1 _).alloc _).drew), ((hd.far (by simp) _).alloc _).drew, ((hz.far (by simp) _).alloc _).drew, ((hb.setCell (by simp; omega) _).alloc (by have := hb.size; simpa [World.setCell] using this) _).drew⟩
          case measure => simp [intOf]; omega
      · have hw := (show wiB 3 1 5 = true by decide)
        have d1 := hd.cell 3
        simp [doesC] at d1
        have HX := hide (standP_take hx)
        clear hx
        go_wp2_with (go_at_call 126; refine (within_any _ _ _ _).mono ?_; rintro e w' ⟨rfl, rfl⟩)
        go_region_with (go_at_call 123; refine (recover_any _ _ _ _ _ ((hp.alloc _).drew)).mono ?_; rintro e w' ⟨rfl, rfl⟩)
        all_goals
          go_wp2_with fail
          go_roundw
          case rel => exact ⟨k + 1, by omega, by go_num, by rw [HX.out]; exact (((hp.set_ 3 _).alloc _).drew), ((hd.far (by simp) _).alloc _).drew, ((hz.far (by simp) _).alloc _).drew, ((hb.setCell (by simp; omega) _).alloc (by have := hb.size; simpa [World.setCell] using this) _).drew⟩
          case measure => simp [intOf]; omega
      · have hw := (show wiB 4 1 5 = true by decide)
        have d1 := hd.cell 4
        simp [doesC] at d1
        have HX := hide (standP_take hx)
        clear hx
        go_wp2_with (go_at_call 126; refine (within_any _ _ _ _).mono ?_; rintro e w' ⟨rfl, rfl⟩)
        go_region_with (go_at_call 124; refine (close_any _ _ _ _ _ ((hp.alloc _).drew)).mono ?_; rintro e w' ⟨rfl, rfl⟩)
        all_goals
          go_wp2_with fail
          go_roundw
          case rel => exact ⟨k + 1, by omega, by go_num, by rw [HX.out]; exact (((hp.set_ 5 _).alloc _).drew), ((hd.far (by simp) _).alloc _).drew, ((hz.far (by simp) _).alloc _).drew, ((hb.setCell (by simp; omega) _).alloc (by have := hb.size; simpa [World.setCell] using this) _).drew⟩
          case measure => simp [intOf]; omega
      · have hw := (show wiB 5 1 5 = true by decide)
        have d1 := hd.cell 5
        simp [doesC] at d1
        have HX := hide (standP_take hx)
        clear hx
        go_wp2_with (go_at_call 126; refine (within_any _ _ _ _).mono ?_; rintro e w' ⟨rfl, rfl⟩)
        go_region_with (go_at_call 125; refine (reopen_any _ _ _ _ _ ((hp.alloc _).drew)).mono ?_; rintro e w' ⟨rfl, rfl⟩)
        all_goals
          go_wp2_with fail
          go_roundw
          case rel => exact ⟨k + 1, by omega, by go_num, by rw [HX.out]; exact (((hp.set_ 5 _).alloc _).drew), ((hd.far (by simp) _).alloc _).drew, ((hz.far (by simp) _).alloc _).drew, ((hb.setCell (by simp; omega) _).alloc (by have := hb.size; simpa [World.setCell] using this) _).drew⟩
          case measure => simp [intOf]; omega
      · have hw : wiB ak 1 5 = false := by simp [wiB]; omega
        have HX := hide (standP_take hx)
        clear hx
        go_wp2_with (go_at_call 126; refine (within_any _ _ _ _).mono ?_; rintro e w' ⟨rfl, rfl⟩)
        go_roundw
        case rel => exact ⟨k + 1, by omega, by go_num, by rw [HX.out]; simp only [stepP]; rw [if_neg (by omega), if_neg (by omega), if_neg (by omega), if_neg (by omega), if_neg (by omega)]; exact hp.alloc _, hd.alloc _, hz.alloc _, hb.alloc hb.size _⟩
        case measure => simp [intOf]; omega
    · obtain rfl : k = l.length := by omega
      rw [List.take_length] at hp
      have c0 := hp.cell 0
      have c1 := hp.cell 1
      have c2 := hp.cell 2
      have c3 := hp.cell 3
      have c4 := hp.cell 4
      have c5 := hp.cell 5
      simp [St.cells] at c0 c1 c2 c3 c4 c5
      have z0 := hz.cell 0
      have z1 := hz.cell 1
      have z2 := hz.cell 2
      have z3 := hz.cell 3
      have z4 := hz.cell 4
      have z5 := hz.cell 5
      have f0 := hz.frozen 0
      have f1 := hz.frozen 1
      have f2 := hz.frozen 2
      have f3 := hz.frozen 3
      have f4 := hz.frozen 4
      have f5 := hz.frozen 5
      simp [zeroC] at z0 z1 z2 z3 z4 z5
      go_wp2_with fail
      have hzf := (((((hz.set_ 0 (.int .i64 (standP l).g)).set_ 1 (.int .i64 (standP l).s)).set_ 2 (.int .i64 0)).set_ 3 (.int .i64 (standP l).b)).set_ 4 (.int .i64 0)).set_ 5 (.bool (standP l).o)
      rw [zero_to] at hzf
      refine ret_row (p := 2) (ty := 162) (g := w.heap.size + 1) (t := 162) (cs := (standP l).cells) rfl rfl rfl hzf Tryz.underlying162 rfl (by kernel_rfl) ⟨rfl, ?_⟩
      have hk6 := hb.size
      exact (((((hb.setCell (by simp) _).setCell (by simp) _).setCell (by simp) _).setCell (by simp) _).setCell (by simp) _).setCell (by simp) _
end Go.Proofs.YtmfohnchnbgbaaaGreat

/- How a file stands: the program's face, and the document's, sum by sum. -/
namespace Go.Proofs.YtmfohnchnbgbaaaGreat
open Go.RowKit

def posC (p : St) : Array Value := #[.int .i64 (max p.g p.s), .int .i64 p.s, .int .i64 0, .int .i64 p.b, .int .i64 0, .bool p.o]

set_option maxHeartbeats 1000000 in
theorem Stand_any (c : Cl) (A : Option Addr) (cap : Nat) (l : List Ac) (w : World) (hl : Sl w w.heap.size 3 A (l.map encAc)) (hm : l.length ≤ 9223372036854775807) :
    Calls Tryz.prog 29 #[.agg #[.int .i64 c.id, .int .i64 c.pol, .int .i64 c.per, .int .i64 c.loss, .int .i64 c.bkd, .int .i64 c.ev, .slice A l.length cap]] w
      fun e w' => e = .returned (.agg (posC (standP l))) ∧ Below w.heap.size w w' := by
  go_enter Tryz.func29, Tryz.ntmps29
  go_wp2_with fail
  refine (stand_any c A cap l _ ((hl.below (((Below.refl _ _).alloc (Nat.le_refl _) _).alloc (by simp) _)).more (by simp; omega)) hm).mono ?_
  rintro e w1 ⟨rfl, hb1⟩
  have hz := (((Blk.new' (w := w.alloc _) (t := 42) (cs := zeroC) (g := w.heap.size + 1) (by simp))).below hb1 (by simp))
  have hb := chain ((((Below.refl w.heap.size w).alloc (Nat.le_refl _) _).alloc (by simp) _)) hb1
  have hlt := hz.lt
  clear hb1
  have z0 := hz.cell 0
  have z1 := hz.cell 1
  have z2 := hz.cell 2
  have z3 := hz.cell 3
  have z4 := hz.cell 4
  have z5 := hz.cell 5
  have f0 := hz.frozen 0
  have f1 := hz.frozen 1
  have f2 := hz.frozen 2
  have f3 := hz.frozen 3
  have f4 := hz.frozen 4
  have f5 := hz.frozen 5
  simp [zeroC] at z0 z1 z2 z3 z4 z5
  rcases hst : standP l with ⟨g, s, b, o⟩
  have HST := hide hst
  clear hst
  simp only [St.cells]
  rcases Int.lt_or_le g s with hgs | hgs
  · have hmx := Int.max_eq_right (Int.le_of_lt hgs)
    have HMX := hide hmx
    clear hmx
    go_wp2_with fail
    have hzf := ((((((hz.set_ 0 (.int .i64 s)).set_ 1 (.int .i64 s)).set_ 2 (.int .i64 0)).set_ 3 (.int .i64 b)).set_ 4 (.int .i64 0)).set_ 5 (.bool o)).alloc (.cells #[.int .i64 s, .int .i64 s, .int .i64 0, .int .i64 b, .int .i64 0, .bool o] 162)
    have e : (((((zeroC.setIfInBounds 0 (.int .i64 s)).setIfInBounds 1 (.int .i64 s)).setIfInBounds 2 (.int .i64 0)).setIfInBounds 3 (.int .i64 b)).setIfInBounds 4 (.int .i64 0)).setIfInBounds 5 (.bool o) = posC ⟨g, s, b, o⟩ := by simp [zeroC, posC, HMX.out]
    rw [e] at hzf
    refine ret_row (p := 2) (ty := 42) (g := w.heap.size + 1) (t := 42) (cs := posC ⟨g, s, b, o⟩) rfl rfl rfl hzf Tryz.underlying42 rfl (by kernel_rfl) ⟨by rw [HST.out], ?_⟩
    exact ((((((hb.setCell (by simp) _).setCell (by simp) _).setCell (by simp) _).setCell (by simp) _).setCell (by simp) _).setCell (by simp) _).alloc (by have := hb.size; simpa [World.setCell] using this) _
  · have hmx := Int.max_eq_left hgs
    have HMX := hide hmx
    clear hmx
    go_wp2_with fail
    have hzf := ((((((hz.set_ 0 (.int .i64 g)).set_ 1 (.int .i64 s)).set_ 2 (.int .i64 0)).set_ 3 (.int .i64 b)).set_ 4 (.int .i64 0)).set_ 5 (.bool o)).alloc (.cells #[.int .i64 g, .int .i64 s, .int .i64 0, .int .i64 b, .int .i64 0, .bool o] 162)
    have e : (((((zeroC.setIfInBounds 0 (.int .i64 g)).setIfInBounds 1 (.int .i64 s)).setIfInBounds 2 (.int .i64 0)).setIfInBounds 3 (.int .i64 b)).setIfInBounds 4 (.int .i64 0)).setIfInBounds 5 (.bool o) = posC ⟨g, s, b, o⟩ := by simp [zeroC, posC, HMX.out]
    rw [e] at hzf
    refine ret_row (p := 2) (ty := 42) (g := w.heap.size + 1) (t := 42) (cs := posC ⟨g, s, b, o⟩) rfl rfl rfl hzf Tryz.underlying42 rfl (by kernel_rfl) ⟨by rw [HST.out], ?_⟩
    exact ((((((hb.setCell (by simp) _).setCell (by simp) _).setCell (by simp) _).setCell (by simp) _).setCell (by simp) _).setCell (by simp) _).alloc (by have := hb.size; simpa [World.setCell] using this) _

def boxC (c : Cl) (A : Option Addr) (n cap : Nat) : Array Value := #[.int .i64 c.id, .int .i64 c.pol, .int .i64 c.per, .int .i64 c.loss, .int .i64 c.bkd, .int .i64 c.ev, .slice A n cap]
theorem set6 {w : World} {g : Nat} {t : TypeId} (h : Blk w g t zeroC) (u0 u1 u2 u3 u4 u5 : Value) :
    Blk ((((((w.setCell ⟨g, 0, none⟩ u0).setCell ⟨g, 1, none⟩ u1).setCell ⟨g, 2, none⟩ u2).setCell ⟨g, 3, none⟩ u3).setCell ⟨g, 4, none⟩ u4).setCell ⟨g, 5, none⟩ u5) g t #[u0, u1, u2, u3, u4, u5] := by
  have h6 := (((((h.set_ 0 u0).set_ 1 u1).set_ 2 u2).set_ 3 u3).set_ 4 u4).set_ 5 u5
  simpa [zeroC] using h6
end Go.Proofs.YtmfohnchnbgbaaaGreat

/- Files with one act more: the last booking, a copy, and what is put, the program's and the document's. -/
namespace Go.Proofs.YtmfohnchnbgbaaaGreat
open Go.RowKit

theorem elAc : ElT Tryz.prog 47 95 3 24 := ElT.mk' (z := .agg #[.int .i64 0, .int .i64 0, .int .i64 0]) Tryz.underlying47 (by kernel_rfl) rfl (by omega)
theorem okAc (l : List Ac) : RowsOk 3 (l.map encAc) := by
  intro r hr
  obtain ⟨x, _, rfl⟩ := List.mem_map.1 hr
  refine ⟨rfl, fun u hu => ?_⟩
  simp [encAc] at hu
  rcases hu with rfl | rfl | rfl <;> rfl

def lastB (bkd : Int) (l : List Ac) : Int := match l.getLast? with | some a => a.b | none => bkd

set_option maxHeartbeats 1000000 in
theorem last_any (c : Cl) (A : Option Addr) (cap : Nat) (l : List Ac) (w : World) (hl : Sl w w.heap.size 3 A (l.map encAc)) (hm : l.length ≤ 9223372036854775807) :
    Calls Tryz.prog 209 #[.agg #[.int .i64 c.id, .int .i64 c.pol, .int .i64 c.per, .int .i64 c.loss, .int .i64 c.bkd, .int .i64 c.ev, .slice A l.length cap]] w
      fun e w' => e = .returned (.int .i64 (lastB c.bkd l)) ∧ Below w.heap.size w w' := by
  rcases Nat.eq_zero_or_pos l.length with h0 | h0
  · have : l = [] := List.eq_nil_of_length_eq_zero h0
    subst this
    go_enter Tryz.func209, Tryz.ntmps209
    go_wp2
    go_ret
    exact ⟨rfl, (Below.refl _ _).alloc (Nat.le_refl _) _⟩
  · obtain ⟨⟨ab, ak, am⟩, hx⟩ := get_of (show l.length - 1 < l.length by omega)
    obtain ⟨bb, off, rfl, hbl, hc0, hc1, hc2⟩ := hl.ac hx
    have hla : lastB c.bkd l = ab := by
      unfold lastB
      rw [List.getLast?_eq_getElem?, hx]
    have HL := hide hla
    have hp : (0 : Int) < (l.length : Int) := by omega
    clear hla hx hl
    obtain ⟨n, hn⟩ : ∃ n, l.length = n + 1 := ⟨l.length - 1, by omega⟩
    rw [hn] at hc0 hc1 hc2 hm hp ⊢
    clear hn h0
    simp only [Nat.add_sub_cancel] at hc0 hc1 hc2
    go_enter Tryz.func209, Tryz.ntmps209
    go_wp2
    go_ret
    exact ⟨by rw [HL.out]; rfl, (Below.refl _ _).alloc (Nat.le_refl _) _⟩

/-- What a copy is: a slice of the call's own, with the same rows; nil of nil. -/
def ClonePost (w : World) (n : Nat) (rows : List (List Value)) (e : Ending) (w' : World) : Prop :=
  ∃ A' c', e = .returned (.slice A' n c') ∧ OwnS w' w.heap.size 95 3 A' n c' rows ∧ Below w.heap.size w w'

set_option maxHeartbeats 1000000 in
theorem clone_any (A : Option Addr) (n cap : Nat) (l : List Ac) (w : World) (hv : SV w 3 A n cap (l.map encAc)) (hbyte : n * 24 ≤ 140737488355328) :
    Calls Tryz.prog 129 #[.slice A n cap] w (ClonePost w n (l.map encAc)) := by
  have hq := fun (W : World) => Lib.run_eql_slice_nil (P := Tryz.prog) W 47 95 A n cap 0 0 Tryz.underlying47
  have hsl := hide hv.sl
  have hlen := hv.len
  have hle := hv.le
  have hmo := hv.most
  cases A with
  | none =>
    have hn : n = 0 := by have := hv.nil rfl; omega
    subst hn
    have hl0 : l.map encAc = [] := List.eq_nil_of_length_eq_zero hlen
    rw [hl0]
    clear hv hlen hle hmo hl0
    go_enter Tryz.func129, Tryz.ntmps129
    go_wp2
    go_ret
    exact ⟨none, 0, rfl, OwnS.nil_ _ _ _ _, Below.refl _ _⟩
  | some ad =>
    clear hv
    unfold maxLen at hmo
    go_enter Tryz.func129, Tryz.ntmps129
    go_wp2_with (at_builtin
                 refine wpList_app rfl (.tmp 5) (.tmp 6) 47 rfl elAc (B := w.heap.size) rfl (OwnS.lit w (Nat.le_refl _) 95 [] RowsOk.nil_ (by simp [maxLen]) #[] rfl) rfl hlen ?_ (okAc l) ?_ ?_ ?_ ?_
                 · exact (hsl.out.below ((Below.refl _ _).alloc (Nat.le_refl _) _)).more (by simp)
                 · simp only [maxLen]; omega
                 · omega
                 · simp
                 intro A1 c1 wa ho1 hg1 ha1
                 have hba : Below w.heap.size w wa := ((Below.refl _ _).alloc (Nat.le_refl _) _).grown hg1 (by simp) (fun k hk => by simp [blk] at hk; omega)
                 simp only [Nat.zero_add, List.nil_append] at ho1
                 clear hg1 ha1)
    go_ret
    exact ⟨A1, c1, by simp, ho1, hba⟩
end Go.Proofs.YtmfohnchnbgbaaaGreat

/- What is put into a file: its code, its blocks. -/
namespace Go.Proofs.YtmfohnchnbgbaaaGreat
open Go.RowKit

def overB (p : St) (k m : Int) : Bool := decide ((k = 2 ∧ wrap64 (1000000000000000 - p.s) < m) ∨ (k = 3 ∧ wrap64 (1000000000000000 - p.b) < m))
def putC (bkd : Int) (l : List Ac) (a : Ac) : Int :=
  if rightB_Claim a = false then 1 else if 2000 ≤ l.length then 2 else if a.b < lastB bkd l then 4 else if (standP l).o = decide (a.k = 5) then 10 else if overB (standP l) a.k a.m = true then 5 else 0
def zeroF : Array Value := #[.int .i64 0, .int .i64 0, .int .i64 0, .int .i64 0, .int .i64 0, .int .i64 0, .slice none 0 0]
def acC (b k m : Int) : Array Value := #[.int .i64 b, .int .i64 k, .int .i64 m]
theorem set7 {w : World} {g : Nat} {t : TypeId} (h : Blk w g t zeroF) (u0 u1 u2 u3 u4 u5 u6 : Value) :
    Blk (((((((w.setCell ⟨g, 0, none⟩ u0).setCell ⟨g, 1, none⟩ u1).setCell ⟨g, 2, none⟩ u2).setCell ⟨g, 3, none⟩ u3).setCell ⟨g, 4, none⟩ u4).setCell ⟨g, 5, none⟩ u5).setCell ⟨g, 6, none⟩ u6) g t #[u0, u1, u2, u3, u4, u5, u6] := by
  have h6 := ((((((h.set_ 0 u0).set_ 1 u1).set_ 2 u2).set_ 3 u3).set_ 4 u4).set_ 5 u5).set_ 6 u6
  simpa [zeroF] using h6
theorem bel7 {B : Nat} {w w' : World} {g : Nat} (h : Below B w w') (hg : B ≤ g) (u0 u1 u2 u3 u4 u5 u6 : Value) :
    Below B w (((((((w'.setCell ⟨g, 0, none⟩ u0).setCell ⟨g, 1, none⟩ u1).setCell ⟨g, 2, none⟩ u2).setCell ⟨g, 3, none⟩ u3).setCell ⟨g, 4, none⟩ u4).setCell ⟨g, 5, none⟩ u5).setCell ⟨g, 6, none⟩ u6) :=
  ((((((h.setCell hg _).setCell hg _).setCell hg _).setCell hg _).setCell hg _).setCell hg _).setCell hg _

/-- The four blocks of a call of Put, in any world of it. -/
structure PutW (w : World) (c : Cl) (A : Option Addr) (n cap : Nat) (b k m : Int) (p : St) (P : Nat) (wx : World) : Prop where
  f : Blk wx w.heap.size 49 (boxC c A n cap)
  a : Blk wx (w.heap.size + 1) 95 (acC b k m)
  z : Blk wx (w.heap.size + 1 + 1) 49 zeroF
  p : Blk wx P 162 p.cells
  far : w.heap.size + 1 + 1 < P
  bel : Below w.heap.size w wx
theorem PutW.below {w wx wy : World} {c : Cl} {A : Option Addr} {n cap : Nat} {b k m : Int} {p : St} {P : Nat} (h : PutW w c A n cap b k m p P wx) (hb : Below wx.heap.size wx wy) : PutW w c A n cap b k m p P wy :=
  ⟨h.f.below hb h.f.lt, h.a.below hb h.a.lt, h.z.below hb h.z.lt, h.p.below hb h.p.lt, h.far, chain h.bel hb⟩
theorem PutW.drew {w wx : World} {c : Cl} {A : Option Addr} {n cap : Nat} {b k m : Int} {p : St} {P : Nat} (h : PutW w c A n cap b k m p P wx) : PutW w c A n cap b k m p P wx.drew := ⟨h.f, h.a, h.z, h.p, h.far, h.bel.drew⟩
theorem PutW.alloc {w wx : World} {c : Cl} {A : Option Addr} {n cap : Nat} {b k m : Int} {p : St} {P : Nat} (h : PutW w c A n cap b k m p P wx) (o : Obj) : PutW w c A n cap b k m p P (wx.alloc o) := ⟨h.f.alloc o, h.a.alloc o, h.z.alloc o, h.p.alloc o, h.far, h.bel.alloc h.bel.size o⟩

/-- What Put leaves: a code and the empty file, or no code and the file with one act more. -/
def PutPost (w : World) (c : Cl) (l : List Ac) (a : Ac) (code : Int) (e : Ending) (w' : World) : Prop :=
  Below w.heap.size w w' ∧ ((code ≠ 0 ∧ e = .returned (.tuple #[.agg zeroF, .int .i64 code])) ∨
    (code = 0 ∧ ∃ A' c', e = .returned (.tuple #[.agg (boxC c A' (l.length + 1) c'), .int .i64 0]) ∧ SV w' 3 A' (l.length + 1) c' ((l ++ [a]).map encAc) ∧ ∀ kk, blk A' = some kk → w.heap.size ≤ kk))
theorem no_post {w wx : World} {c : Cl} {A : Option Addr} {n cap : Nat} {b k m : Int} {p : St} {P : Nat} {fn : Func} {a : Act} {l : List Ac} {x : Ac} {code : Int} {tr : Tmp}
    (h : PutW w c A n cap b k m p P wx) (hc : code ≠ 0) (hr : fn.results = #[.cell 4 49, .tmp tr]) (hd : a.defers = []) (hp : a.tmps.getD 4 undef = .pointer (some ⟨w.heap.size + 1 + 1, 0, none⟩)) (hx : a.tmps.getD tr undef = .int .i64 code) :
    bodyPost Tryz.prog fn (PutPost w c l x code) .ret a (((((((wx.setCell ⟨w.heap.size + 1 + 1, 0, none⟩ (.int .i64 0)).setCell ⟨w.heap.size + 1 + 1, 1, none⟩ (.int .i64 0)).setCell ⟨w.heap.size + 1 + 1, 2, none⟩ (.int .i64 0)).setCell ⟨w.heap.size + 1 + 1, 3, none⟩ (.int .i64 0)).setCell ⟨w.heap.size + 1 + 1, 4, none⟩ (.int .i64 0)).setCell ⟨w.heap.size + 1 + 1, 5, none⟩ (.int .i64 0)).setCell ⟨w.heap.size + 1 + 1, 6, none⟩ (.slice none 0 0)) :=
  ret_row2 hr hd hp hx (set7 h.z _ _ _ _ _ _ _) Tryz.underlying49 rfl (by kernel_rfl) ⟨bel7 h.bel (by omega) _ _ _ _ _ _ _, .inl ⟨hc, rfl⟩⟩

theorem PutW.grown {w wx wy : World} {c : Cl} {A : Option Addr} {n cap : Nat} {b k m : Int} {p : St} {P : Nat} (h : PutW w c A n cap b k m p P wx) {row : Option Nat} (hg : wx.grownBy wy row) (hr : ∀ j, row = some j → P < j) : PutW w c A n cap b k m p P wy := by
  have hfar := h.far
  have hne : ∀ i, i ≤ P → some i ≠ row := fun i hi he => by have := hr i he.symm; omega
  exact ⟨h.f.grown hg (hne _ (by omega)), h.a.grown hg (hne _ (by omega)), h.z.grown hg (hne _ (by omega)), h.p.grown hg (hne _ (by omega)), h.far, h.bel.grown hg h.bel.size (fun j hj => by have := hr j hj; omega)⟩
theorem PutW.put {w wx : World} {c : Cl} {A A' : Option Addr} {n cap n' cap' : Nat} {b k m : Int} {p : St} {P : Nat} (h : PutW w c A n cap b k m p P wx) : PutW w c A' n' cap' b k m p P (wx.setCell ⟨w.heap.size, 6, none⟩ (.slice A' n' cap')) := by
  have hfar := h.far
  exact ⟨by have := h.f.set_ 6 (.slice A' n' cap'); simpa [boxC] using this, h.a.far (by simp) _, h.z.far (by simp; omega) _, h.p.far (by simp; omega) _, h.far, h.bel.setCell (by simp) _⟩
theorem own_far7 {w : World} {B : Nat} {e : TypeId} {sz n cap : Nat} {A : Option Addr} {rows : List (List Value)} (h : OwnS w B e sz A n cap rows) {g : Nat} (hg : g < B) (u0 u1 u2 u3 u4 u5 u6 : Value) :
    OwnS (((((((w.setCell ⟨g, 0, none⟩ u0).setCell ⟨g, 1, none⟩ u1).setCell ⟨g, 2, none⟩ u2).setCell ⟨g, 3, none⟩ u3).setCell ⟨g, 4, none⟩ u4).setCell ⟨g, 5, none⟩ u5).setCell ⟨g, 6, none⟩ u6) B e sz A n cap rows := by
  have hne : ∀ k, blk A = some k → k ≠ g := fun k hk => by have := (h.lt k hk).1; omega
  exact ((((((h.far (p := ⟨g, 0, none⟩) hne u0).far (p := ⟨g, 1, none⟩) hne u1).far (p := ⟨g, 2, none⟩) hne u2).far (p := ⟨g, 3, none⟩) hne u3).far (p := ⟨g, 4, none⟩) hne u4).far (p := ⟨g, 5, none⟩) hne u5).far (p := ⟨g, 6, none⟩) hne u6
theorem yes_post {w wx : World} {c : Cl} {A0 : Option Addr} {n0 cap0 : Nat} {b k m : Int} {p : St} {P : Nat} {fn : Func} {a : Act} {l : List Ac} {x : Ac} {code : Int} {tr : Tmp} {A : Option Addr} {cap B : Nat}
    (h : PutW w c A0 n0 cap0 b k m p P wx) (ho : OwnS wx B 95 3 A (l.length + 1) cap ((l ++ [x]).map encAc)) (hB : P < B) (hc : code = 0) (hr : fn.results = #[.cell 4 49, .tmp tr]) (hd : a.defers = []) (hp : a.tmps.getD 4 undef = .pointer (some ⟨w.heap.size + 1 + 1, 0, none⟩)) (hx : a.tmps.getD tr undef = .int .i64 0) :
    bodyPost Tryz.prog fn (PutPost w c l x code) .ret a ((((((((wx.setCell ⟨w.heap.size, 6, none⟩ (.slice A (l.length + 1) cap)).setCell ⟨w.heap.size + 1 + 1, 0, none⟩ (.int .i64 c.id)).setCell ⟨w.heap.size + 1 + 1, 1, none⟩ (.int .i64 c.pol)).setCell ⟨w.heap.size + 1 + 1, 2, none⟩ (.int .i64 c.per)).setCell ⟨w.heap.size + 1 + 1, 3, none⟩ (.int .i64 c.loss)).setCell ⟨w.heap.size + 1 + 1, 4, none⟩ (.int .i64 c.bkd)).setCell ⟨w.heap.size + 1 + 1, 5, none⟩ (.int .i64 c.ev)).setCell ⟨w.heap.size + 1 + 1, 6, none⟩ (.slice A (l.length + 1) cap)) := by
  have hfar := h.far
  have h1 := h.put (A' := A) (n' := l.length + 1) (cap' := cap)
  refine ret_row2 hr hd hp hx (set7 h1.z _ _ _ _ _ _ _) Tryz.underlying49 rfl (by kernel_rfl) ⟨bel7 h1.bel (by omega) _ _ _ _ _ _ _, .inr ⟨hc, A, cap, rfl, ?_, fun kk hk => by have := (ho.lt kk hk).1; omega⟩⟩
  exact (own_far7 (ho.far (p := ⟨w.heap.size, 6, none⟩) (fun j hj => by have := (ho.lt j hj).1; simp; omega) _) (by omega) _ _ _ _ _ _ _).sv
end Go.Proofs.YtmfohnchnbgbaaaGreat
