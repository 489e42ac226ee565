/- Part 48 of the proof. -/
import Derived.Test.YtmfohnchnbgbaaaGreatDoorYpM24
import Derived.Test.YtmfohnchnbgbaaaGreatDoorYpM45
import Derived.Test.YtmfohnchnbgbaaaGreatDoorYpM47
/- Two lists of bills that are one; the policy that is looked at. -/
namespace Go.Proofs.YtmfohnchnbgbaaaGreatDoor
open Go.RowKit Go.Lib

theorem neq_bl (a0 a1 a2 b0 b1 b2 : Int) (w : World) : (binOp .neq 83 (.agg #[.int .i64 a0, .int .i64 a1, .int .i64 a2]) (.agg #[.int .i64 b0, .int .i64 b1, .int .i64 b2])).run Tryz.prog w = .ok (.bool (!decide (a0 = b0 ∧ a1 = b1 ∧ a2 = b2))) w := by
  by_cases h0 : a0 = b0 <;> by_cases h1 : a1 = b1 <;> by_cases h2 : a2 = b2 <;> simp [go_sem, h0, h1, h2]
theorem Sl.bl {w : World} {B k : Nat} {A : Option Addr} {M : List (Int × Int)} {c : Int × Int} (h : Sl w B 3 A (M.map encBl)) (hx : M[k]? = some c) :
    ∃ b off, A = some ⟨b, off, none⟩ ∧ b < B ∧ w.cell? ⟨b, off + k * 3, none⟩ = some (.int .i64 c.1) ∧ w.cell? ⟨b, off + k * 3 + 1, none⟩ = some (.int .i64 c.2) ∧ w.cell? ⟨b, off + k * 3 + 2, none⟩ = some (.int .i64 0) := by
  obtain ⟨b, off, hA, hb, hc⟩ := h k (encBl c) (by simp [hx])
  exact ⟨b, off, hA, hb, by simpa using hc 0 _ rfl, hc 1 _ rfl, hc 2 _ rfl⟩

set_option maxRecDepth 100000 in
set_option maxHeartbeats 2000000 in
theorem sameBl_any (A A2 : Option Addr) (n cap cap2 : Nat) (l : List (Int × Int)) (w : World) (hs : SV w 3 A n cap (l.map encBl)) (hs2 : SV w 3 A2 n cap2 (l.map encBl)) (hm : n ≤ 1000000) :
    Calls Tryz.prog 22 #[.slice A n cap, .slice A2 n cap2] w fun e w' => e = .returned (.bool true) ∧ Below w.heap.size w w' := by
  have hn : l.length = n := by have := hs.len; simpa using this
  have HN := hide hn
  have HS := hide hs
  have HS2 := hide hs2
  clear hn hs hs2
  have hbn : ((n : Int) != (n : Int)) = false := by simp
  go_enter Tryz.func22, Tryz.ntmps22
  go_wp2_with fail
  go_loopw [5] (fun i wr => ∃ k : Nat, k ≤ n ∧ i = .int .i64 k ∧ Below w.heap.size w wr) (fun i _ => n - (RowKit.intOf i).toNat)
  case atStart => exact ⟨0, Nat.zero_le _, rfl, Below.refl _ _⟩
  case round =>
    obtain ⟨k, hk, rfl, hb⟩ := hrel
    have HB := hide hb
    by_cases hlt : k < n
    · obtain ⟨c, hx⟩ := get_of (l := l) (k := k) (by rw [HN.out]; exact hlt)
      obtain ⟨b, off, rfl, hbl, c0, c1, c2⟩ := (HS.out.below hb).sl.bl hx
      obtain ⟨b', off', rfl, hbl', d0, d1, d2⟩ := (HS2.out.below hb).sl.bl hx
      have hk0 : (0 : Int) ≤ (k : Int) := by omega
      have hk1 : (k : Int) < (n : Int) := by omega
      have hnq : ∀ w, (binOp .neq 83 (.agg #[.int .i64 c.1, .int .i64 c.2, .int .i64 0]) (.agg #[.int .i64 c.1, .int .i64 c.2, .int .i64 0])).run Tryz.prog w = .ok (.bool false) w := fun w => by rw [neq_bl]; simp
      clear hx hb
      go_wp2_with fail
      refine wp_region_class (fun W => Below wr.heap.size wr W) (by kernel_rfl) (by kernel_rfl) (Below.refl _ _).drew ?_
      repeat (first
        | go_big_quiet_skip
        | (go_big_quiet_want
           first
             | (go_big_quiet_op
                go_big_quiet_on)
             | (refine quiet_yield (v := ?_) ?_ ?_
                rotate_left
                · intro W hW
                  have c0 := kept hW c0
                  have c1 := kept hW c1
                  have c2 := kept hW c2
                  have d0 := kept hW d0
                  have d1 := kept hW d1
                  have d2 := kept hW d2
                  clear hW
                  go_simp
                  try with_reducible rfl
                simp only [Act.put, List.setIfInBounds_toArray, List.set_cons_zero, List.set_cons_succ]
                go_big_quiet_on)))
      refine wpQuiet_nil ?_
      intro W hW
      have HW := hide (chain HB.out hW)
      clear hW c0 c1 c2 d0 d1 d2 hnq
      go_wp2_with fail
      go_roundw
      case rel => exact ⟨k + 1, by omega, by go_num, HW.out⟩
      case measure => simp [RowKit.intOf]; omega
    · obtain rfl : k = n := by omega
      clear hb
      go_wp2_with fail
      go_ret
      exact ⟨rfl, HB.out⟩

/-- The policy, where it lies. -/
def polH (A : Option Addr) : Hi := ⟨1, 1, ⟨1, 101, 0, 36500, 0, 0, A, [⟨1, 10, 10, 0, 10000⟩], 1⟩, none, [], 0⟩
def polV (Z P : Option Addr) : Vw := ⟨1, 10000, 0, 0, 0, none, [], 0, Z, [10000], 1, P, [10000, 10000, 10000, 10000, 10000, 10000, 10000, 10000], 8, 0⟩
def PolP (w : World) (e : Ending) (w' : World) : Prop := ∃ A Z P V, e = .returned (.tuple #[.agg (hiC (polH A)), .agg #[.slice V 1 1]]) ∧ HV w' (polH A) ∧ TV w' V 1 1 [polV Z P] ∧ Below w.heap.size w w'
def verC (Z P : Option Addr) : Array Value := #[.int .i64 1, .int .i64 10000, .int .i64 0, .int .i64 0, .int .i64 0, .slice none 0 0, .slice Z 1 1, .slice P 8 8, .int .i64 0]
theorem ver_cells {w : World} {g : Nat} {Z P : Option Addr} (h : Blk w g 114 (verC Z P)) : w.cell? ⟨g, 0, none⟩ = some (.int .i64 1) ∧ w.cell? ⟨g, 1, none⟩ = some (.int .i64 10000) ∧ w.cell? ⟨g, 2, none⟩ = some (.int .i64 0) ∧ w.cell? ⟨g, 3, none⟩ = some (.int .i64 0) ∧ w.cell? ⟨g, 4, none⟩ = some (.int .i64 0) ∧
    w.cell? ⟨g, 5, none⟩ = some (.slice none 0 0) ∧ w.cell? ⟨g, 6, none⟩ = some (.slice Z 1 1) ∧ w.cell? ⟨g, 7, none⟩ = some (.slice P 8 8) ∧ w.cell? ⟨g, 8, none⟩ = some (.int .i64 0) :=
  ⟨h.cell 0, h.cell 1, h.cell 2, h.cell 3, h.cell 4, h.cell 5, h.cell 6, h.cell 7, h.cell 8⟩
def hisC (A : Option Addr) : Array Value := #[.int .i64 1, .int .i64 1, .int .i64 1, .int .i64 101, .int .i64 0, .int .i64 36500, .int .i64 0, .int .i64 0, .slice A 1 1, .slice none 0 0]
theorem his_cells {w : World} {g : Nat} {A : Option Addr} (h : Blk w g 64 (hisC A)) : w.cell? ⟨g, 0, none⟩ = some (.int .i64 1) ∧ w.cell? ⟨g, 1, none⟩ = some (.int .i64 1) ∧ w.cell? ⟨g, 2, none⟩ = some (.int .i64 1) ∧ w.cell? ⟨g, 3, none⟩ = some (.int .i64 101) ∧ w.cell? ⟨g, 4, none⟩ = some (.int .i64 0) ∧
    w.cell? ⟨g, 5, none⟩ = some (.int .i64 36500) ∧ w.cell? ⟨g, 6, none⟩ = some (.int .i64 0) ∧ w.cell? ⟨g, 7, none⟩ = some (.int .i64 0) ∧ w.cell? ⟨g, 8, none⟩ = some (.slice A 1 1) ∧ w.cell? ⟨g, 9, none⟩ = some (.slice none 0 0) :=
  ⟨h.cell 0, h.cell 1, h.cell 2, h.cell 3, h.cell 4, h.cell 5, h.cell 6, h.cell 7, h.cell 8, h.cell 9⟩
/-- What lies there ahead of the last statement. -/
structure PolW (w W : World) (G : Nat) (X : Array Value) : Prop where
  hr : Blk W G 64 X
  tr : Blk W (G + 1) 67 #[.slice none 0 0]
  z : Blk W (G + 1 + 1) 3 #[.int .i64 10000]
  p : Blk W (G + 1 + 1 + 1) 3 #[.int .i64 10000, .int .i64 10000, .int .i64 10000, .int .i64 10000, .int .i64 10000, .int .i64 10000, .int .i64 10000, .int .i64 10000]
  v : Blk W (G + 1 + 1 + 1 + 1) 114 (verC (some ⟨G + 1 + 1, 0, none⟩) (some ⟨G + 1 + 1 + 1, 0, none⟩))
  c : Blk W (G + 1 + 1 + 1 + 1 + 1) 41 #[.int .i64 1, .int .i64 10, .int .i64 10, .int .i64 0, .int .i64 10000]
  h : Blk W (G + 1 + 1 + 1 + 1 + 1 + 1) 64 (hisC (some ⟨G + 1 + 1 + 1 + 1 + 1, 0, none⟩))
  be : Below w.heap.size w W
  ge : w.heap.size ≤ G
theorem PolW.below {w W W' : World} {G : Nat} {X : Array Value} (h : PolW w W G X) (hb : Below W.heap.size W W') : PolW w W' G X :=
  ⟨h.hr.below hb h.hr.lt, h.tr.below hb h.tr.lt, h.z.below hb h.z.lt, h.p.below hb h.p.lt, h.v.below hb h.v.lt, h.c.below hb h.c.lt, h.h.below hb h.h.lt, chain h.be hb, h.ge⟩
theorem PolW.setR {w W : World} {G : Nat} {a0 a1 a2 a3 a4 a5 a6 a7 a8 a9 z0 z1 z2 z3 z4 z5 z6 z7 z8 z9 : Value} (h : PolW w W G #[z0, z1, z2, z3, z4, z5, z6, z7, z8, z9]) : PolW w ((((((((((W.setCell ⟨G, 0, none⟩ a0).setCell ⟨G, 1, none⟩ a1).setCell ⟨G, 2, none⟩ a2).setCell ⟨G, 3, none⟩ a3).setCell ⟨G, 4, none⟩ a4).setCell ⟨G, 5, none⟩ a5).setCell ⟨G, 6, none⟩ a6).setCell ⟨G, 7, none⟩ a7).setCell ⟨G, 8, none⟩ a8).setCell ⟨G, 9, none⟩ a9) G #[a0, a1, a2, a3, a4, a5, a6, a7, a8, a9] := by
  have far : ∀ {g : Nat} {t : TypeId} {cs : Array Value}, Blk W g t cs → g ≠ G → Blk ((((((((((W.setCell ⟨G, 0, none⟩ a0).setCell ⟨G, 1, none⟩ a1).setCell ⟨G, 2, none⟩ a2).setCell ⟨G, 3, none⟩ a3).setCell ⟨G, 4, none⟩ a4).setCell ⟨G, 5, none⟩ a5).setCell ⟨G, 6, none⟩ a6).setCell ⟨G, 7, none⟩ a7).setCell ⟨G, 8, none⟩ a8).setCell ⟨G, 9, none⟩ a9) g t cs := fun hb hn =>
    (((((((((hb.far (p := ⟨G, 0, none⟩) hn _).far (p := ⟨G, 1, none⟩) hn _).far (p := ⟨G, 2, none⟩) hn _).far (p := ⟨G, 3, none⟩) hn _).far (p := ⟨G, 4, none⟩) hn _).far (p := ⟨G, 5, none⟩) hn _).far (p := ⟨G, 6, none⟩) hn _).far (p := ⟨G, 7, none⟩) hn _).far (p := ⟨G, 8, none⟩) hn _).far (p := ⟨G, 9, none⟩) hn _
  exact ⟨hi_fill h.hr, far h.tr (by omega), far h.z (by omega), far h.p (by omega), far h.v (by omega), far h.c (by omega), far h.h (by omega),
    (((((((((h.be.setCell (p := ⟨G, 0, none⟩) h.ge _).setCell (p := ⟨G, 1, none⟩) h.ge _).setCell (p := ⟨G, 2, none⟩) h.ge _).setCell (p := ⟨G, 3, none⟩) h.ge _).setCell (p := ⟨G, 4, none⟩) h.ge _).setCell (p := ⟨G, 5, none⟩) h.ge _).setCell (p := ⟨G, 6, none⟩) h.ge _).setCell (p := ⟨G, 7, none⟩) h.ge _).setCell (p := ⟨G, 8, none⟩) h.ge _).setCell (p := ⟨G, 9, none⟩) h.ge _, h.ge⟩
theorem ret_rr {P : Program} {fn : Func} {R : Ending → World → Prop} {a : Act} {w : World} {p p2 : Tmp} {ty ty2 : TypeId} {g g2 : Nat} {t t2 : TypeId} {cs cs2 : Array Value} {d d2 : TypeDesc} (h : fn.results = #[.cell p ty, .cell p2 ty2]) (hde : a.defers = [])
    (hp : a.tmps.getD p undef = .pointer (some ⟨g, 0, none⟩)) (hg : Blk w g t cs) (hu : P.underlying ty = some d) (hd : (match d with | .struct _ | .array _ _ => true | _ => false) = true) (hi : (P.info? ty).map (·.size) = some cs.size)
    (hp2 : a.tmps.getD p2 undef = .pointer (some ⟨g2, 0, none⟩)) (hg2 : Blk w g2 t2 cs2) (hu2 : P.underlying ty2 = some d2) (hd2 : (match d2 with | .struct _ | .array _ _ => true | _ => false) = true) (hi2 : (P.info? ty2).map (·.size) = some cs2.size)
    (hR : R (.returned (.tuple #[.agg cs, .agg cs2])) w) : bodyPost P fn R .ret a w :=
  bodyPost_ret (by
    have e1 := run_loadVar_row (P := P) w g t ty cs (0, 0) d hg hu hd hi
    have e2 := run_loadVar_row (P := P) w g2 t2 ty2 cs2 (0, 0) d2 hg2 hu2 hd2 hi2
    have q1 : a.tmps[p]?.getD undef = .pointer (some ⟨g, 0, none⟩) := by simpa using hp
    have q2 : a.tmps[p2]?.getD undef = .pointer (some ⟨g2, 0, none⟩) := by simpa using hp2
    simp [results, h, q1, q2, asAddr, e1, e2, Sem.run_bind, Result.andThen]) hde hR
def polWd (w : World) : World := (((((((w.alloc (.cells hiZ 64)).alloc (.cells #[.slice none 0 0] 67)).alloc (.cells #[.int .i64 10000] 3)).alloc (.cells #[.int .i64 10000, .int .i64 10000, .int .i64 10000, .int .i64 10000, .int .i64 10000, .int .i64 10000, .int .i64 10000, .int .i64 10000] 3)).alloc
    (.cells (verC (some ⟨w.heap.size + 1 + 1, 0, none⟩) (some ⟨w.heap.size + 1 + 1 + 1, 0, none⟩)) 114)).alloc (.cells #[.int .i64 1, .int .i64 10, .int .i64 10, .int .i64 0, .int .i64 10000] 41)).alloc (.cells (hisC (some ⟨w.heap.size + 1 + 1 + 1 + 1 + 1, 0, none⟩)) 64))
theorem polW_new (w : World) : PolW w (polWd w) w.heap.size hiZ := by
  refine ⟨?_, ?_, ?_, ?_, ?_, ?_, ?_, ?_, Nat.le_refl _⟩
  · exact ((((((Blk.new _ _ _).alloc _).alloc _).alloc _).alloc _).alloc _).alloc _
  · exact (((((Blk.new' (by simp)).alloc _).alloc _).alloc _).alloc _).alloc _
  · exact ((((Blk.new' (by simp)).alloc _).alloc _).alloc _).alloc _
  · exact (((Blk.new' (by simp)).alloc _).alloc _).alloc _
  · exact ((Blk.new' (by simp)).alloc _).alloc _
  · exact (Blk.new' (by simp)).alloc _
  · exact Blk.new' (by simp)
  · exact (((((((Below.refl _ _).alloc (Nat.le_refl _) _).alloc (by simp) _).alloc (by simp; omega) _).alloc (by simp; omega) _).alloc (by simp; omega) _).alloc (by simp; omega) _).alloc (by simp; omega) _
def PolS (G : Nat) (W : World) : Prop := ((W.cell? ⟨G + 1 + 1 + 1 + 1 + 1 + 1, 0, none⟩ = some (.int .i64 1) ∧ W.cell? ⟨G + 1 + 1 + 1 + 1 + 1 + 1, 1, none⟩ = some (.int .i64 1) ∧ W.cell? ⟨G + 1 + 1 + 1 + 1 + 1 + 1, 2, none⟩ = some (.int .i64 1) ∧ W.cell? ⟨G + 1 + 1 + 1 + 1 + 1 + 1, 3, none⟩ = some (.int .i64 101) ∧ W.cell? ⟨G + 1 + 1 + 1 + 1 + 1 + 1, 4, none⟩ = some (.int .i64 0) ∧ W.cell? ⟨G + 1 + 1 + 1 + 1 + 1 + 1, 5, none⟩ = some (.int .i64 36500) ∧ W.cell? ⟨G + 1 + 1 + 1 + 1 + 1 + 1, 6, none⟩ = some (.int .i64 0) ∧ W.cell? ⟨G + 1 + 1 + 1 + 1 + 1 + 1, 7, none⟩ = some (.int .i64 0) ∧ W.cell? ⟨G + 1 + 1 + 1 + 1 + 1 + 1, 8, none⟩ = some (.slice (some ⟨G + 1 + 1 + 1 + 1 + 1, 0, none⟩) 1 1) ∧ W.cell? ⟨G + 1 + 1 + 1 + 1 + 1 + 1, 9, none⟩ = some (.slice none 0 0)) ∧ (W.cell? ⟨G + 1 + 1 + 1 + 1, 0, none⟩ = some (.int .i64 1) ∧ W.cell? ⟨G + 1 + 1 + 1 + 1, 1, none⟩ = some (.int .i64 10000) ∧ W.cell? ⟨G + 1 + 1 + 1 + 1, 2, none⟩ = some (.int .i64 0) ∧ W.cell? ⟨G + 1 + 1 + 1 + 1, 3, none⟩ = some (.int .i64 0) ∧ W.cell? ⟨G + 1 + 1 + 1 + 1, 4, none⟩ = some (.int .i64 0) ∧ W.cell? ⟨G + 1 + 1 + 1 + 1, 5, none⟩ = some (.slice none 0 0) ∧ W.cell? ⟨G + 1 + 1 + 1 + 1, 6, none⟩ = some (.slice (some ⟨G + 1 + 1, 0, none⟩) 1 1) ∧ W.cell? ⟨G + 1 + 1 + 1 + 1, 7, none⟩ = some (.slice (some ⟨G + 1 + 1 + 1, 0, none⟩) 8 8) ∧ W.cell? ⟨G + 1 + 1 + 1 + 1, 8, none⟩ = some (.int .i64 0)))
theorem polS {w W : World} {G : Nat} {X : Array Value} (h : PolW w W G X) : PolS G W := ⟨his_cells h.h, ver_cells h.v⟩
theorem pol_fin {w W : World} {G V : Nat} (h : PolW w W G (hisC (some ⟨G + 1 + 1 + 1 + 1 + 1, 0, none⟩))) (hv : Blk W V 114 (verC (some ⟨G + 1 + 1, 0, none⟩) (some ⟨G + 1 + 1 + 1, 0, none⟩))) (hV : G + 1 < V) :
    Blk (W.setCell ⟨G + 1, 0, none⟩ (.slice (some ⟨V, 0, none⟩) 1 1)) G 64 (hisC (some ⟨G + 1 + 1 + 1 + 1 + 1, 0, none⟩)) ∧ Blk (W.setCell ⟨G + 1, 0, none⟩ (.slice (some ⟨V, 0, none⟩) 1 1)) (G + 1) 67 #[.slice (some ⟨V, 0, none⟩) 1 1] ∧
      HV (W.setCell ⟨G + 1, 0, none⟩ (.slice (some ⟨V, 0, none⟩) 1 1)) (polH (some ⟨G + 1 + 1 + 1 + 1 + 1, 0, none⟩)) ∧ TV (W.setCell ⟨G + 1, 0, none⟩ (.slice (some ⟨V, 0, none⟩) 1 1)) (some ⟨V, 0, none⟩) 1 1 [polV (some ⟨G + 1 + 1, 0, none⟩) (some ⟨G + 1 + 1 + 1, 0, none⟩)] ∧
      Below w.heap.size w (W.setCell ⟨G + 1, 0, none⟩ (.slice (some ⟨V, 0, none⟩) 1 1)) := by
  have far : ∀ {g : Nat} {t : TypeId} {cs : Array Value}, Blk W g t cs → g ≠ G + 1 → Blk (W.setCell ⟨G + 1, 0, none⟩ (.slice (some ⟨V, 0, none⟩) 1 1)) g t cs := fun hb hn => hb.far (p := ⟨G + 1, 0, none⟩) hn _
  refine ⟨far h.hr (by omega), by simpa using h.tr.set_ 0 (.slice (some ⟨V, 0, none⟩) 1 1), ⟨?_, ?_, ?_, ?_, ?_⟩, ⟨?_, ?_⟩, h.be.setCell (p := ⟨G + 1, 0, none⟩) (by have := h.ge; simp; omega) _⟩
  · exact ⟨sl_of_blk (far h.c (by omega)), rfl, Nat.le_refl _, by simp [maxLen, polH], fun h => by cases h⟩
  · intro c hc
    simp only [polH, List.mem_singleton] at hc
    subst hc
    simp [okCv, ok64]
  · exact ⟨Sl.nil_, rfl, Nat.le_refl _, by simp [maxLen, polH], fun _ => rfl⟩
  · intro c hc; simp [polH] at hc
  · intro c hc; simp [polH] at hc
  · exact ⟨sl_of_blk (far hv (by omega)), rfl, Nat.le_refl _, by simp [maxLen], fun h => by cases h⟩
  · intro v hv'
    rw [List.mem_singleton] at hv'
    subst hv'
    exact ⟨⟨Sl.nil_, rfl, Nat.le_refl _, by simp [maxLen, polV], fun _ => rfl⟩, ⟨sl_ints (l := [10000]) (far h.z (by omega)) rfl, rfl, Nat.le_refl _, by simp [maxLen, polV], fun h => by cases h⟩,
      ⟨sl_ints (l := [10000, 10000, 10000, 10000, 10000, 10000, 10000, 10000]) (far h.p (by omega)) rfl, rfl, Nat.le_refl _, by simp [maxLen, polV], fun h => by cases h⟩⟩
set_option linter.unusedSimpArgs false in
set_option maxRecDepth 100000 in
set_option maxHeartbeats 4000000 in
theorem policy_any (w : World) : Calls Tryz.prog 16 #[] w (PolP w) := by
  have HP0 := hide (polW_new w)
  go_enter Tryz.func16, Tryz.ntmps16
  go_wp2_with fail
  change Code.wp Tryz.prog _ _ _ (polWd w)
  obtain ⟨W7, hW7⟩ : ∃ W, polWd w = W := ⟨_, rfl⟩
  rw [hW7] at HP0 ⊢
  obtain ⟨G, hG⟩ : ∃ G, w.heap.size = G := ⟨_, rfl⟩
  rw [hG] at HP0 ⊢
  have HP := hide HP0.out
  clear HP0 hW7
  have hS0 : PolS G W7.drew := polS (HP.out.below (Below.refl _ _).drew)
  refine wp_region_T (PolS G) [] rfl (by kernel_rfl) ?_
  refine wpAnyT_take (i := 0) (v := ?_) rfl (by kernel_rfl) (by kernel_rfl) (by kernel_rfl) (by kernel_rfl) (fun _ _ _ h => h) (Or.inl ⟨by rfl, ?_⟩) hS0 ?_
  rotate_left
  · intro W hSW
    obtain ⟨hs0, hs1⟩ := hSW
    go_simp
    try with_reducible rfl
  simp only [Act.put, List.setIfInBounds_toArray, List.set_cons_zero, List.set_cons_succ]
  refine wpAnyT_take (i := 1) (v := ?_) rfl (by kernel_rfl) (by kernel_rfl) (by kernel_rfl) (by kernel_rfl) (fun _ _ _ h => h) (Or.inl ⟨by rfl, ?_⟩) hS0 ?_
  rotate_left
  · intro W hSW
    obtain ⟨hs0, hs1⟩ := hSW
    go_simp
    try with_reducible rfl
  simp only [Act.put, List.setIfInBounds_toArray, List.set_cons_zero, List.set_cons_succ]
  have HPd := hide (HP.out.below (Below.refl _ _).drew)
  have hGV : G + 1 < W7.heap.size := HP.out.tr.lt
  refine wpAnyT_ready (rs := [2, 4]) (by kernel_rfl) (by simp) ?_
  refine AllReadyT.cons rfl (fun K hK => ?_) ?_
  · go_simp
    have HA := hide (HPd.out.below ((Below.refl _ _).alloc (Nat.le_refl _) (.cells (verC (some ⟨G + 1 + 1, 0, none⟩) (some ⟨G + 1 + 1 + 1, 0, none⟩)) 114)))
    have HVA := hide (Blk.new W7.drew 114 (verC (some ⟨G + 1 + 1, 0, none⟩) (some ⟨G + 1 + 1 + 1, 0, none⟩)))
    refine hK.out _ _ (fun _ => polS HA.out) ?_
    try simp only [Act.put, List.setIfInBounds_toArray, List.set_cons_zero, List.set_cons_succ]
    clear hK K
    obtain ⟨WA, hWA⟩ : ∃ W, W7.drew.alloc (.cells (verC (some ⟨G + 1 + 1, 0, none⟩) (some ⟨G + 1 + 1 + 1, 0, none⟩)) 114) = W := ⟨_, rfl⟩
    change wpAnyT _ _ _ _ _ _ _ _ _ (W7.drew.alloc (.cells (verC (some ⟨G + 1 + 1, 0, none⟩) (some ⟨G + 1 + 1 + 1, 0, none⟩)) 114))
    rw [hWA] at HA HVA ⊢
    clear hWA
    have HVA2 := hide (show Blk WA W7.heap.size 114 (verC (some ⟨G + 1 + 1, 0, none⟩) (some ⟨G + 1 + 1 + 1, 0, none⟩)) from HVA.out)
    refine wpAnyT_take (i := 3) (v := ?_) rfl (by kernel_rfl) (by kernel_rfl) (by kernel_rfl) (by kernel_rfl) (fun _ _ _ h => h) (Or.inl ⟨by rfl, ?_⟩) (polS HA.out) ?_
    rotate_left
    · intro W hSW
      clear hSW
      go_simp
      try with_reducible rfl
    simp only [Act.put, List.setIfInBounds_toArray, List.set_cons_zero, List.set_cons_succ]
    refine wpAnyT_ready (rs := [4]) (by kernel_rfl) (by simp) ?_
    refine AllReadyT.cons rfl (fun K hK => ?_) ?_
    · skip
      have r0 : WA.cell? ⟨G, 0, none⟩ = some (.int .i64 0) := HA.out.hr.cell 0
      have g0 := HA.out.hr.frozen 0
      have r1 : WA.cell? ⟨G, 1, none⟩ = some (.int .i64 0) := HA.out.hr.cell 1
      have g1 := HA.out.hr.frozen 1
      have r2 : WA.cell? ⟨G, 2, none⟩ = some (.int .i64 0) := HA.out.hr.cell 2
      have g2 := HA.out.hr.frozen 2
      have r3 : WA.cell? ⟨G, 3, none⟩ = some (.int .i64 0) := HA.out.hr.cell 3
      have g3 := HA.out.hr.frozen 3
      have r4 : WA.cell? ⟨G, 4, none⟩ = some (.int .i64 0) := HA.out.hr.cell 4
      have g4 := HA.out.hr.frozen 4
      have r5 : WA.cell? ⟨G, 5, none⟩ = some (.int .i64 0) := HA.out.hr.cell 5
      have g5 := HA.out.hr.frozen 5
      have r6 : WA.cell? ⟨G, 6, none⟩ = some (.int .i64 0) := HA.out.hr.cell 6
      have g6 := HA.out.hr.frozen 6
      have r7 : WA.cell? ⟨G, 7, none⟩ = some (.int .i64 0) := HA.out.hr.cell 7
      have g7 := HA.out.hr.frozen 7
      have r8 : WA.cell? ⟨G, 8, none⟩ = some (.slice none 0 0) := HA.out.hr.cell 8
      have g8 := HA.out.hr.frozen 8
      have r9 : WA.cell? ⟨G, 9, none⟩ = some (.slice none 0 0) := HA.out.hr.cell 9
      have g9 := HA.out.hr.frozen 9
      have HR := hide (PolW.setR (a0 := .int .i64 1) (a1 := .int .i64 1) (a2 := .int .i64 1) (a3 := .int .i64 101) (a4 := .int .i64 0) (a5 := .int .i64 36500) (a6 := .int .i64 0) (a7 := .int .i64 0) (a8 := .slice (some ⟨G + 1 + 1 + 1 + 1 + 1, 0, none⟩) 1 1) (a9 := .slice none 0 0) HA.out)
      have HVR := hide (((((((((((HVA2.out.far (p := ⟨G, 0, none⟩) (by simp; omega) (.int .i64 1)).far (p := ⟨G, 1, none⟩) (by simp; omega) (.int .i64 1)).far (p := ⟨G, 2, none⟩) (by simp; omega) (.int .i64 1)).far (p := ⟨G, 3, none⟩) (by simp; omega) (.int .i64 101)).far (p := ⟨G, 4, none⟩) (by simp; omega) (.int .i64 0)).far (p := ⟨G, 5, none⟩) (by simp; omega) (.int .i64 36500)).far (p := ⟨G, 6, none⟩) (by simp; omega) (.int .i64 0)).far (p := ⟨G, 7, none⟩) (by simp; omega) (.int .i64 0)).far (p := ⟨G, 8, none⟩) (by simp; omega) (.slice (some ⟨G + 1 + 1 + 1 + 1 + 1, 0, none⟩) 1 1)).far (p := ⟨G, 9, none⟩) (by simp; omega) (.slice none 0 0)))
      go_simp
      refine hK.out _ _ (fun _ => polS HR.out) ?_
      try simp only [Act.put, List.setIfInBounds_toArray, List.set_cons_zero, List.set_cons_succ]
      clear r0 g0 r1 g1 r2 g2 r3 g3 r4 g4 r5 g5 r6 g6 r7 g7 r8 g8 r9 g9
      clear hK K
      obtain ⟨WR, hWR⟩ : ∃ W, ((((((((((WA.setCell ⟨G, 0, none⟩ (.int .i64 1)).setCell ⟨G, 1, none⟩ (.int .i64 1)).setCell ⟨G, 2, none⟩ (.int .i64 1)).setCell ⟨G, 3, none⟩ (.int .i64 101)).setCell ⟨G, 4, none⟩ (.int .i64 0)).setCell ⟨G, 5, none⟩ (.int .i64 36500)).setCell ⟨G, 6, none⟩ (.int .i64 0)).setCell ⟨G, 7, none⟩ (.int .i64 0)).setCell ⟨G, 8, none⟩ (.slice (some ⟨G + 1 + 1 + 1 + 1 + 1, 0, none⟩) 1 1)).setCell ⟨G, 9, none⟩ (.slice none 0 0)) = W := ⟨_, rfl⟩
      rw [hWR] at HR HVR ⊢
      clear hWR
      refine wpAnyT_ready (rs := [5]) (by kernel_rfl) (by simp) ?_
      refine AllReadyT.cons rfl (fun K hK => ?_) ?_
      · have s0 := HR.out.tr.cell 0
        have s1 := HR.out.tr.frozen 0
        simp at s0
        go_simp
        refine hK.out _ _ (fun _ => ?_) ?_
        · exact ⟨his_cells (HR.out.h.far (p := ⟨G + 1, 0, none⟩) (by simp; omega) _), ver_cells (HR.out.v.far (p := ⟨G + 1, 0, none⟩) (by simp; omega) _)⟩
        try simp only [Act.put, List.setIfInBounds_toArray, List.set_cons_zero, List.set_cons_succ]
        clear hK K s0 s1
        refine wpAnyT_done (by kernel_rfl) ?_ _
        obtain ⟨e1, e2, e3, e4, e5⟩ := pol_fin HR.out HVR.out (by omega)
        have E1 := hide e1
        have E2 := hide e2
        have E3 := hide e3
        have E4 := hide e4
        have E5 := hide e5
        clear e1 e2 e3 e4 e5
        go_wp2_with fail
        exact ret_rr rfl rfl rfl E1.out Tryz.underlying64 rfl (by kernel_rfl) rfl E2.out Tryz.underlying67 rfl (by kernel_rfl) ⟨_, _, _, _, rfl, E3.out, E4.out, E5.out⟩
      exact AllReadyT.nil
    exact AllReadyT.nil
  refine AllReadyT.cons rfl (fun K hK => ?_) ?_
  · obtain ⟨WD, hWD⟩ : ∃ W, W7.drew = W := ⟨_, rfl⟩
    have hsz7 : W7.heap.size = WD.heap.size := by rw [← hWD]; rfl
    rw [hWD] at HPd ⊢
    rw [hsz7] at hGV
    clear hWD hsz7
    have r0 : WD.cell? ⟨G, 0, none⟩ = some (.int .i64 0) := HPd.out.hr.cell 0
    have g0 := HPd.out.hr.frozen 0
    have r1 : WD.cell? ⟨G, 1, none⟩ = some (.int .i64 0) := HPd.out.hr.cell 1
    have g1 := HPd.out.hr.frozen 1
    have r2 : WD.cell? ⟨G, 2, none⟩ = some (.int .i64 0) := HPd.out.hr.cell 2
    have g2 := HPd.out.hr.frozen 2
    have r3 : WD.cell? ⟨G, 3, none⟩ = some (.int .i64 0) := HPd.out.hr.cell 3
    have g3 := HPd.out.hr.frozen 3
    have r4 : WD.cell? ⟨G, 4, none⟩ = some (.int .i64 0) := HPd.out.hr.cell 4
    have g4 := HPd.out.hr.frozen 4
    have r5 : WD.cell? ⟨G, 5, none⟩ = some (.int .i64 0) := HPd.out.hr.cell 5
    have g5 := HPd.out.hr.frozen 5
    have r6 : WD.cell? ⟨G, 6, none⟩ = some (.int .i64 0) := HPd.out.hr.cell 6
    have g6 := HPd.out.hr.frozen 6
    have r7 : WD.cell? ⟨G, 7, none⟩ = some (.int .i64 0) := HPd.out.hr.cell 7
    have g7 := HPd.out.hr.frozen 7
    have r8 : WD.cell? ⟨G, 8, none⟩ = some (.slice none 0 0) := HPd.out.hr.cell 8
    have g8 := HPd.out.hr.frozen 8
    have r9 : WD.cell? ⟨G, 9, none⟩ = some (.slice none 0 0) := HPd.out.hr.cell 9
    have g9 := HPd.out.hr.frozen 9
    have HR := hide (PolW.setR (a0 := .int .i64 1) (a1 := .int .i64 1) (a2 := .int .i64 1) (a3 := .int .i64 101) (a4 := .int .i64 0) (a5 := .int .i64 36500) (a6 := .int .i64 0) (a7 := .int .i64 0) (a8 := .slice (some ⟨G + 1 + 1 + 1 + 1 + 1, 0, none⟩) 1 1) (a9 := .slice none 0 0) HPd.out)
    go_simp
    refine hK.out _ _ (fun _ => polS HR.out) ?_
    try simp only [Act.put, List.setIfInBounds_toArray, List.set_cons_zero, List.set_cons_succ]
    clear r0 g0 r1 g1 r2 g2 r3 g3 r4 g4 r5 g5 r6 g6 r7 g7 r8 g8 r9 g9
    clear hK K
    refine wpAnyT_ready (rs := [2]) (by kernel_rfl) (by simp) ?_
    refine AllReadyT.cons rfl (fun K hK => ?_) ?_
    · go_simp
      have HA := hide (HR.out.below ((Below.refl _ _).alloc (Nat.le_refl _) (.cells (verC (some ⟨G + 1 + 1, 0, none⟩) (some ⟨G + 1 + 1 + 1, 0, none⟩)) 114)))
      have HVA := hide (Blk.new' (g := WD.heap.size) (t := 114) (cs := verC (some ⟨G + 1 + 1, 0, none⟩) (some ⟨G + 1 + 1 + 1, 0, none⟩)) (show WD.heap.size = (((((((((((WD.setCell ⟨G, 0, none⟩ (.int .i64 1)).setCell ⟨G, 1, none⟩ (.int .i64 1)).setCell ⟨G, 2, none⟩ (.int .i64 1)).setCell ⟨G, 3, none⟩ (.int .i64 101)).setCell ⟨G, 4, none⟩ (.int .i64 0)).setCell ⟨G, 5, none⟩ (.int .i64 36500)).setCell ⟨G, 6, none⟩ (.int .i64 0)).setCell ⟨G, 7, none⟩ (.int .i64 0)).setCell ⟨G, 8, none⟩ (.slice (some ⟨G + 1 + 1 + 1 + 1 + 1, 0, none⟩) 1 1)).setCell ⟨G, 9, none⟩ (.slice none 0 0))).heap.size by simp))
      refine hK.out _ _ (fun _ => polS HA.out) ?_
      try simp only [Act.put, List.setIfInBounds_toArray, List.set_cons_zero, List.set_cons_succ]
      clear hK K
      obtain ⟨WA, hWA⟩ : ∃ W, ((((((((((WD.setCell ⟨G, 0, none⟩ (.int .i64 1)).setCell ⟨G, 1, none⟩ (.int .i64 1)).setCell ⟨G, 2, none⟩ (.int .i64 1)).setCell ⟨G, 3, none⟩ (.int .i64 101)).setCell ⟨G, 4, none⟩ (.int .i64 0)).setCell ⟨G, 5, none⟩ (.int .i64 36500)).setCell ⟨G, 6, none⟩ (.int .i64 0)).setCell ⟨G, 7, none⟩ (.int .i64 0)).setCell ⟨G, 8, none⟩ (.slice (some ⟨G + 1 + 1 + 1 + 1 + 1, 0, none⟩) 1 1)).setCell ⟨G, 9, none⟩ (.slice none 0 0)).alloc (.cells (verC (some ⟨G + 1 + 1, 0, none⟩) (some ⟨G + 1 + 1 + 1, 0, none⟩)) 114) = W := ⟨_, rfl⟩
      change wpAnyT _ _ _ _ _ _ _ _ _ (((((((((((WD.setCell ⟨G, 0, none⟩ (.int .i64 1)).setCell ⟨G, 1, none⟩ (.int .i64 1)).setCell ⟨G, 2, none⟩ (.int .i64 1)).setCell ⟨G, 3, none⟩ (.int .i64 101)).setCell ⟨G, 4, none⟩ (.int .i64 0)).setCell ⟨G, 5, none⟩ (.int .i64 36500)).setCell ⟨G, 6, none⟩ (.int .i64 0)).setCell ⟨G, 7, none⟩ (.int .i64 0)).setCell ⟨G, 8, none⟩ (.slice (some ⟨G + 1 + 1 + 1 + 1 + 1, 0, none⟩) 1 1)).setCell ⟨G, 9, none⟩ (.slice none 0 0)).alloc (.cells (verC (some ⟨G + 1 + 1, 0, none⟩) (some ⟨G + 1 + 1 + 1, 0, none⟩)) 114))
      rw [hWA] at HA HVA ⊢
      clear hWA
      refine wpAnyT_take (i := 3) (v := ?_) rfl (by kernel_rfl) (by kernel_rfl) (by kernel_rfl) (by kernel_rfl) (fun _ _ _ h => h) (Or.inl ⟨by rfl, ?_⟩) (polS HA.out) ?_
      rotate_left
      · intro W hSW
        clear hSW
        go_simp
        try with_reducible rfl
      simp only [Act.put, List.setIfInBounds_toArray, List.set_cons_zero, List.set_cons_succ]
      refine wpAnyT_ready (rs := [5]) (by kernel_rfl) (by simp) ?_
      refine AllReadyT.cons rfl (fun K hK => ?_) ?_
      · have s0 := HA.out.tr.cell 0
        have s1 := HA.out.tr.frozen 0
        simp at s0
        go_simp
        refine hK.out _ _ (fun _ => ?_) ?_
        · exact ⟨his_cells (HA.out.h.far (p := ⟨G + 1, 0, none⟩) (by simp; omega) _), ver_cells (HA.out.v.far (p := ⟨G + 1, 0, none⟩) (by simp; omega) _)⟩
        try simp only [Act.put, List.setIfInBounds_toArray, List.set_cons_zero, List.set_cons_succ]
        clear hK K s0 s1
        refine wpAnyT_done (by kernel_rfl) ?_ _
        obtain ⟨e1, e2, e3, e4, e5⟩ := pol_fin HA.out HVA.out (by omega)
        have E1 := hide e1
        have E2 := hide e2
        have E3 := hide e3
        have E4 := hide e4
        have E5 := hide e5
        clear e1 e2 e3 e4 e5
        go_wp2_with fail
        exact ret_rr rfl rfl rfl E1.out Tryz.underlying64 rfl (by kernel_rfl) rfl E2.out Tryz.underlying67 rfl (by kernel_rfl) ⟨_, _, _, _, rfl, E3.out, E4.out, E5.out⟩
      exact AllReadyT.nil
    exact AllReadyT.nil
  exact AllReadyT.nil
end Go.Proofs.YtmfohnchnbgbaaaGreatDoor
