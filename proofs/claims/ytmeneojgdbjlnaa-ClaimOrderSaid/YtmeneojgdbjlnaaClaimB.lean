/- How a file stands: the program's fold over the acts. -/
import Derived.Test.YtmeneojgdbjlnaaClaimA
import Derived.Deep.RegionWith
import Derived.StillTailTactics
import Derived.Laws.EntriesVeiled
import Derived.BigQuiet
import Derived.Deep.QuietTactic
namespace Go.Proofs.Ytmeneojgdbjlnaa
open Go.RowKit

structure St where
  g : Int
  s : Int
  b : Int
  o : Bool
def stepP (p : St) (a : Ac) : St :=
  if a.k = 1 then ⟨a.m, p.s, p.b, p.o⟩ else if a.k = 2 then ⟨p.g, wrap64 (p.s + a.m), p.b, p.o⟩ else if a.k = 3 then ⟨p.g, p.s, wrap64 (p.b + a.m), p.o⟩
  else if a.k = 4 then ⟨p.g, p.s, p.b, false⟩ else if a.k = 5 then ⟨p.g, p.s, p.b, true⟩ else p
def standP (l : List Ac) : St := l.foldl stepP ⟨0, 0, 0, true⟩
theorem standP_snoc (l : List Ac) (a : Ac) : standP (l ++ [a]) = stepP (standP l) a := by simp [standP]
theorem standP_take {l : List Ac} {k : Nat} {a : Ac} (h : l[k]? = some a) : standP (l.take (k + 1)) = stepP (standP (l.take k)) a := by rw [take_of h, standP_snoc]
def St.cells (p : St) : Array Value := #[.int .i64 p.g, .int .i64 p.s, .int .i64 0, .int .i64 p.b, .int .i64 0, .bool p.o]

theorem Sl.ac {w : World} {B k : Nat} {A : Option Addr} {l : List Ac} {a : Ac} (h : Sl w B 3 A (l.map encAc)) (hx : l[k]? = some a) :
    ∃ b off, A = some ⟨b, off, none⟩ ∧ b < B ∧ w.cell? ⟨b, off + k * 3, none⟩ = some (.int .i64 a.b) ∧ w.cell? ⟨b, off + k * 3 + 1, none⟩ = some (.int .i64 a.k) ∧ w.cell? ⟨b, off + k * 3 + 2, none⟩ = some (.int .i64 a.m) := by
  obtain ⟨b, off, hA, hb, hc⟩ := h k (encAc a) (by simp [hx])
  exact ⟨b, off, hA, hb, hc 0 _ rfl, hc 1 _ rfl, hc 2 _ rfl⟩

def doesC : Array Value := #[.nilFunc, .func (Fn.func 33) #[] #[], .func (Fn.func 34) #[] #[], .func (Fn.func 35) #[] #[], .func (Fn.func 36) #[] #[], .func (Fn.func 37) #[] #[]]
def zeroC : Array Value := #[.int .i64 0, .int .i64 0, .int .i64 0, .int .i64 0, .int .i64 0, .bool false]

theorem gross_any (b : Nat) (m : Int) (t : TypeId) (p : St) (w : World) (hb : Blk w b t p.cells) :
    Calls Try.prog 33 #[.pointer (some ⟨b, 0, none⟩), .int .i64 m] w fun e w' => e = .returned (.tuple #[]) ∧ w.setCell ⟨b, 0, none⟩ (.int .i64 m) = w' := by
  have hc := hb.cell 0
  have hf := hb.frozen 0
  simp [St.cells] at hc
  go_enter Try.func33, Try.ntmps33
  go_wp2
  go_end0
  exact ⟨rfl, rfl⟩
theorem pay_any (b : Nat) (m : Int) (t : TypeId) (p : St) (w : World) (hb : Blk w b t p.cells) :
    Calls Try.prog 34 #[.pointer (some ⟨b, 0, none⟩), .int .i64 m] w fun e w' => e = .returned (.tuple #[]) ∧ w.setCell ⟨b, 1, none⟩ (.int .i64 (wrap64 (p.s + m))) = w' := by
  have hc := hb.cell 1
  have hf := hb.frozen 1
  simp [St.cells] at hc
  go_enter Try.func34, Try.ntmps34
  go_wp2
  go_end0
  exact ⟨rfl, rfl⟩
theorem recover_any (b : Nat) (m : Int) (t : TypeId) (p : St) (w : World) (hb : Blk w b t p.cells) :
    Calls Try.prog 35 #[.pointer (some ⟨b, 0, none⟩), .int .i64 m] w fun e w' => e = .returned (.tuple #[]) ∧ w.setCell ⟨b, 3, none⟩ (.int .i64 (wrap64 (p.b + m))) = w' := by
  have hc := hb.cell 3
  have hf := hb.frozen 3
  simp [St.cells] at hc
  go_enter Try.func35, Try.ntmps35
  go_wp2
  go_end0
  exact ⟨rfl, rfl⟩
theorem close_any (b : Nat) (m : Int) (t : TypeId) (p : St) (w : World) (hb : Blk w b t p.cells) :
    Calls Try.prog 36 #[.pointer (some ⟨b, 0, none⟩), .int .i64 m] w fun e w' => e = .returned (.tuple #[]) ∧ w.setCell ⟨b, 5, none⟩ (.bool false) = w' := by
  have hc := hb.cell 5
  have hf := hb.frozen 5
  simp [St.cells] at hc
  go_enter Try.func36, Try.ntmps36
  go_wp2
  go_end0
  exact ⟨rfl, rfl⟩
theorem reopen_any (b : Nat) (m : Int) (t : TypeId) (p : St) (w : World) (hb : Blk w b t p.cells) :
    Calls Try.prog 37 #[.pointer (some ⟨b, 0, none⟩), .int .i64 m] w fun e w' => e = .returned (.tuple #[]) ∧ w.setCell ⟨b, 5, none⟩ (.bool true) = w' := by
  have hc := hb.cell 5
  have hf := hb.frozen 5
  simp [St.cells] at hc
  go_enter Try.func37, Try.ntmps37
  go_wp2
  go_end0
  exact ⟨rfl, rfl⟩

theorem zero_to (p : St) : (((((zeroC.setIfInBounds 0 (.int .i64 p.g)).setIfInBounds 1 (.int .i64 p.s)).setIfInBounds 2 (.int .i64 0)).setIfInBounds 3 (.int .i64 p.b)).setIfInBounds 4 (.int .i64 0)).setIfInBounds 5 (.bool p.o) = p.cells := by
  simp [zeroC, St.cells]

set_option maxHeartbeats 2000000 in
theorem stand_any (c : Cl) (A : Option Addr) (cap : Nat) (l : List Ac) (w : World) (hl : Sl w w.heap.size 3 A (l.map encAc)) (hm : l.length ≤ 9223372036854775807) :
    Calls Try.prog 27 #[.agg #[.int .i64 c.id, .int .i64 c.pol, .int .i64 c.per, .int .i64 c.loss, .int .i64 c.bkd, .int .i64 c.ev, .slice A l.length cap]] w
      fun e w' => e = .returned (.agg (standP l).cells) ∧ Below w.heap.size w w' := by
  have HL := hide hl
  clear hl
  go_enter Try.func27, Try.ntmps27
  go_wp2
  go_loopw [12] (fun i wr => ∃ k : Nat, k ≤ l.length ∧ i = .int .i64 k ∧ Blk wr (w.heap.size + 1 + 1 + 1) 53 (standP (l.take k)).cells ∧ Blk wr (w.heap.size + 1 + 1) 62 doesC ∧ Blk wr (w.heap.size + 1) 53 zeroC ∧ Below w.heap.size w wr)
    (fun i _ => l.length - (intOf i).toNat)
  case atStart => exact ⟨0, Nat.zero_le _, rfl, Blk.new' (by simp), (Blk.new' (by simp)).alloc _, ((Blk.new' (by simp)).alloc _).alloc _, ((((Below.refl _ _).alloc (Nat.le_refl _) _).alloc (by simp) _).alloc (by simp; omega) _).alloc (by simp; omega) _⟩
  case round =>
    obtain ⟨k, hk, rfl, hp, hd, hz, hb⟩ := hrel
    have hlp := hp.lt
    have hlp2 : w.heap.size + 1 + 1 < wr.heap.size := by omega
    by_cases hlt : k < l.length
    · obtain ⟨⟨ab, ak, am⟩, hx⟩ := get_of hlt
      obtain ⟨bb, off, rfl, hbl, hc0, hc1, hc2⟩ := ((HL.out.below hb).more hb.size).ac hx
      simp only at hc0 hc1 hc2
      rcases kinds ak with rfl | rfl | rfl | rfl | rfl | hkk
      · have hw := (show wiB 1 1 5 = true by decide)
        have d1 := hd.cell 1
        simp [doesC] at d1
        have HX := hide (standP_take hx)
        clear hx
        go_wp2_with (go_at_call 26; refine (within_any _ _ _ _).mono ?_; rintro e w' ⟨rfl, rfl⟩)
        go_region_with (go_at_call 33; refine (gross_any _ _ _ _ _ ((hp.alloc _).drew)).mono ?_; rintro e w' ⟨rfl, rfl⟩)
        all_goals
          go_wp2_with fail
          go_roundw
          case rel => exact ⟨k + 1, by omega, by go_num, by rw [HX.out]; exact (((hp.set_ 0 _).alloc _).drew), ((hd.far (by simp) _).alloc _).drew, ((hz.far (by simp) _).alloc _).drew, ((hb.setCell (by simp; omega) _).alloc (by have := hb.size; simpa [World.setCell] using this) _).drew⟩
          case measure => simp [intOf]; omega
      · have hw := (show wiB 2 1 5 = true by decide)
        have d1 := hd.cell 2
        simp [doesC] at d1
        have HX := hide (standP_take hx)
        clear hx
        go_wp2_with (go_at_call 26; refine (within_any _ _ _ _).mono ?_; rintro e w' ⟨rfl, rfl⟩)
        go_region_with (go_at_call 34; refine (pay_any _ _ _ _ _ ((hp.alloc _).drew)).mono ?_; rintro e w' ⟨rfl, rfl⟩)
        all_goals
          go_wp2_with fail
          go_roundw
          case rel => exact ⟨k + 1, by omega, by go_num, by rw [HX.out]; exact (((hp.set_ 1 _).alloc _).drew), ((hd.far (by simp) _).alloc _).drew, ((hz.far (by simp) _).alloc _).drew, ((hb.setCell (by simp; omega) _).alloc (by have := hb.size; simpa [World.setCell] using this) _).drew⟩
          case measure => simp [intOf]; omega
      · have hw := (show wiB 3 1 5 = true by decide)
        have d1 := hd.cell 3
        simp [doesC] at d1
        have HX := hide (standP_take hx)
        clear hx
        go_wp2_with (go_at_call 26; refine (within_any _ _ _ _).mono ?_; rintro e w' ⟨rfl, rfl⟩)
        go_region_with (go_at_call 35; refine (recover_any _ _ _ _ _ ((hp.alloc _).drew)).mono ?_; rintro e w' ⟨rfl, rfl⟩)
        all_goals
          go_wp2_with fail
          go_roundw
          case rel => exact ⟨k + 1, by omega, by go_num, by rw [HX.out]; exact (((hp.set_ 3 _).alloc _).drew), ((hd.far (by simp) _).alloc _).drew, ((hz.far (by simp) _).alloc _).drew, ((hb.setCell (by simp; omega) _).alloc (by have := hb.size; simpa [World.setCell] using this) _).drew⟩
          case measure => simp [intOf]; omega
      · have hw := (show wiB 4 1 5 = true by decide)
        have d1 := hd.cell 4
        simp [doesC] at d1
        have HX := hide (standP_take hx)
        clear hx
        go_wp2_with (go_at_call 26; refine (within_any _ _ _ _).mono ?_; rintro e w' ⟨rfl, rfl⟩)
        go_region_with (go_at_call 36; refine (close_any _ _ _ _ _ ((hp.alloc _).drew)).mono ?_; rintro e w' ⟨rfl, rfl⟩)
        all_goals
          go_wp2_with fail
          go_roundw
          case rel => exact ⟨k + 1, by omega, by go_num, by rw [HX.out]; exact (((hp.set_ 5 _).alloc _).drew), ((hd.far (by simp) _).alloc _).drew, ((hz.far (by simp) _).alloc _).drew, ((hb.setCell (by simp; omega) _).alloc (by have := hb.size; simpa [World.setCell] using this) _).drew⟩
          case measure => simp [intOf]; omega
      · have hw := (show wiB 5 1 5 = true by decide)
        have d1 := hd.cell 5
        simp [doesC] at d1
        have HX := hide (standP_take hx)
        clear hx
        go_wp2_with (go_at_call 26; refine (within_any _ _ _ _).mono ?_; rintro e w' ⟨rfl, rfl⟩)
        go_region_with (go_at_call 37; refine (reopen_any _ _ _ _ _ ((hp.alloc _).drew)).mono ?_; rintro e w' ⟨rfl, rfl⟩)
        all_goals
          go_wp2_with fail
          go_roundw
          case rel => exact ⟨k + 1, by omega, by go_num, by rw [HX.out]; exact (((hp.set_ 5 _).alloc _).drew), ((hd.far (by simp) _).alloc _).drew, ((hz.far (by simp) _).alloc _).drew, ((hb.setCell (by simp; omega) _).alloc (by have := hb.size; simpa [World.setCell] using this) _).drew⟩
          case measure => simp [intOf]; omega
      · have hw : wiB ak 1 5 = false := by simp [wiB]; omega
        have HX := hide (standP_take hx)
        clear hx
        go_wp2_with (go_at_call 26; refine (within_any _ _ _ _).mono ?_; rintro e w' ⟨rfl, rfl⟩)
        go_roundw
        case rel => exact ⟨k + 1, by omega, by go_num, by rw [HX.out]; simp only [stepP]; rw [if_neg (by omega), if_neg (by omega), if_neg (by omega), if_neg (by omega), if_neg (by omega)]; exact hp.alloc _, hd.alloc _, hz.alloc _, hb.alloc hb.size _⟩
        case measure => simp [intOf]; omega
    · obtain rfl : k = l.length := by omega
      rw [List.take_length] at hp
      have c0 := hp.cell 0
      have c1 := hp.cell 1
      have c2 := hp.cell 2
      have c3 := hp.cell 3
      have c4 := hp.cell 4
      have c5 := hp.cell 5
      simp [St.cells] at c0 c1 c2 c3 c4 c5
      have z0 := hz.cell 0
      have z1 := hz.cell 1
      have z2 := hz.cell 2
      have z3 := hz.cell 3
      have z4 := hz.cell 4
      have z5 := hz.cell 5
      have f0 := hz.frozen 0
      have f1 := hz.frozen 1
      have f2 := hz.frozen 2
      have f3 := hz.frozen 3
      have f4 := hz.frozen 4
      have f5 := hz.frozen 5
      simp [zeroC] at z0 z1 z2 z3 z4 z5
      go_wp2_with fail
      have hzf := (((((hz.set_ 0 (.int .i64 (standP l).g)).set_ 1 (.int .i64 (standP l).s)).set_ 2 (.int .i64 0)).set_ 3 (.int .i64 (standP l).b)).set_ 4 (.int .i64 0)).set_ 5 (.bool (standP l).o)
      rw [zero_to] at hzf
      refine ret_row (p := 2) (ty := 53) (g := w.heap.size + 1) (t := 53) (cs := (standP l).cells) rfl rfl rfl hzf Try.underlying53 rfl (by kernel_rfl) ⟨rfl, ?_⟩
      have hk6 := hb.size
      exact (((((hb.setCell (by simp) _).setCell (by simp) _).setCell (by simp) _).setCell (by simp) _).setCell (by simp) _).setCell (by simp) _
end Go.Proofs.Ytmeneojgdbjlnaa
