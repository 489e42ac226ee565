/- Part 40 of the proof. -/
import Derived.Test.YtmfohnchnbgbaaaGreatDoorYpM36
/- Are there few files: ref20.Few, one way; what positions come to: ref20.Sum, as far as what was paid goes. -/
namespace Go.Proofs.YtmfohnchnbgbaaaGreatDoor
open Go.RowKit Go.Lib
set_option linter.unusedSimpArgs false

set_option maxRecDepth 100000 in
set_option maxHeartbeats 8000000 in
theorem few20_any (A : Option Addr) (n cap : Nat) (L : List Fl) (w : World) (hv : FV w A n cap L) :
    Calls Tryz.prog 10 #[.slice A n cap] w fun e w' => (∃ b : Bool, e = .returned (.bool b) ∧ (b = true → n ≤ 20)) ∧ Below w.heap.size w w' := by
  have HN := hide hv.len
  have HV := hide hv
  clear hv
  go_enter Tryz.func10, Tryz.ntmps10
  by_cases hlt : n ≤ 20
  · have h1 : ¬ (n : Int) > 20 := by omega
    go_wp2_with fail
    go_loopw [3] (fun q3 wr => ∃ k : Nat, k ≤ n ∧ q3 = .int .i64 k ∧ Below w.heap.size w wr) (fun q _ => n - (RowKit.intOf q).toNat)
    case atStart => exact ⟨0, Nat.zero_le _, rfl, Below.refl _ _⟩
    case round =>
      rename World => wp
      obtain ⟨k, hk, rfl, hb⟩ := hrel
      have HB := hide hb
      by_cases hlk : k < n
      · obtain ⟨x, hx⟩ := get_of (l := L) (k := k) (by rw [HN.out]; exact hlk)
        obtain ⟨bb, off2, hA2, hbl2, c0, c1, c2, c3, c4, c5, c6⟩ := (HV.out.below hb).sv.sl.fl hx
        have hi0 : (0 : Int) ≤ (k : Int) := by omega
        have hi1 : (k : Int) < (n : Int) := by omega
        obtain ⟨m, hm⟩ : ∃ m, x.l.length = m := ⟨_, rfl⟩
        rw [hm] at c6
        subst hA2
        clear hb hx c0 c1 c2 c3 c4 c5 hm
        by_cases hm : m ≤ 40
        · have hm1 : ¬ (m : Int) > 40 := by omega
          go_wp2_with fail
          go_roundw
          case rel => exact ⟨k + 1, by omega, by go_num, HB.out⟩
          case measure => simp [RowKit.intOf]; omega
        · have hm1 : (m : Int) > 40 := by omega
          go_wp2_with fail
          go_ret
          exact ⟨⟨false, rfl, fun h => absurd h (by simp)⟩, HB.out⟩
      · obtain rfl : k = n := by omega
        clear hb
        go_wp2_with fail
        go_ret
        exact ⟨⟨true, rfl, fun _ => hlt⟩, HB.out⟩
  · have h1 : (n : Int) > 20 := by omega
    go_wp2_with fail
    go_ret
    exact ⟨⟨false, rfl, fun h => absurd h (by simp)⟩, Below.refl _ _⟩

def psC (g s p b r : Int) (o : Bool) : Array Value := #[.int .i64 g, .int .i64 s, .int .i64 p, .int .i64 b, .int .i64 r, .bool o]
theorem ps_cells {w : World} {B : Nat} {t : TypeId} {g s p b r : Int} {o : Bool} (h : Blk w B t (psC g s p b r o)) : w.cell? ⟨B, 0, none⟩ = some (.int .i64 g) ∧ w.cell? ⟨B, 1, none⟩ = some (.int .i64 s) ∧ w.cell? ⟨B, 2, none⟩ = some (.int .i64 p) ∧ w.cell? ⟨B, 3, none⟩ = some (.int .i64 b) ∧ w.cell? ⟨B, 4, none⟩ = some (.int .i64 r) ∧ w.cell? ⟨B, 5, none⟩ = some (.bool o) :=
  ⟨h.cell 0, h.cell 1, h.cell 2, h.cell 3, h.cell 4, h.cell 5⟩
theorem set6P {w : World} {B : Nat} {t : TypeId} {g s p b r : Int} {o : Bool} (h : Blk w B t (psC g s p b r o)) (u0 u1 u2 u3 u4 u5 : Value) :
    Blk ((((((w.setCell ⟨B, 0, none⟩ u0).setCell ⟨B, 1, none⟩ u1).setCell ⟨B, 2, none⟩ u2).setCell ⟨B, 3, none⟩ u3).setCell ⟨B, 4, none⟩ u4).setCell ⟨B, 5, none⟩ u5) B t #[u0, u1, u2, u3, u4, u5] := by
  have h6 := (((((h.set_ 0 u0).set_ 1 u1).set_ 2 u2).set_ 3 u3).set_ 4 u4).set_ 5 u5
  simpa [psC] using h6
theorem bel6 {D : Nat} {w w' : World} {B : Nat} (h : Below D w w') (hg : D ≤ B) (u0 u1 u2 u3 u4 u5 : Value) :
    Below D w ((((((w'.setCell ⟨B, 0, none⟩ u0).setCell ⟨B, 1, none⟩ u1).setCell ⟨B, 2, none⟩ u2).setCell ⟨B, 3, none⟩ u3).setCell ⟨B, 4, none⟩ u4).setCell ⟨B, 5, none⟩ u5) :=
  (((((h.setCell hg _).setCell hg _).setCell hg _).setCell hg _).setCell hg _).setCell hg _
def SumPs (P : List Ps) (w : World) (e : Ending) (w' : World) : Prop :=
  Below w.heap.size w w' ∧ ∃ (g s b r : Int) (o : Bool), e = .returned (.agg #[.int .i64 g, .int .i64 s, .int .i64 (P.map (fun y => y.p)).sum, .int .i64 b, .int .i64 r, .bool o])
theorem psum_take {P : List Ps} {k : Nat} {y : Ps} (h : P[k]? = some y) : ((P.take (k + 1)).map (fun y => y.p)).sum = ((P.take k).map (fun y => y.p)).sum + y.p := by
  rw [take_of h, List.map_append, List.sum_append]; simp
theorem psum_bd {P : List Ps} (h : ∀ y ∈ P, 0 ≤ y.p ∧ y.p ≤ 1000000000000000) (k : Nat) : 0 ≤ ((P.take k).map (fun y => y.p)).sum ∧ ((P.take k).map (fun y => y.p)).sum ≤ k * 1000000000000000 := by
  induction k with
  | zero => simp
  | succ k ih =>
    by_cases hk : k < P.length
    · obtain ⟨y, hy⟩ := get_of hk
      have := h y (List.mem_of_getElem? hy)
      rw [psum_take hy]; omega
    · rw [List.take_of_length_le (by omega)] at ih ⊢
      omega
/-- The state of the loop. -/
structure SuI (w : World) (g s p b r : Int) (o : Bool) (wr : World) : Prop where
  bx : Blk wr (w.heap.size + 1) 52 (psC g s p b r o)
  z : Blk wr w.heap.size 52 (psC 0 0 0 0 0 false)
  be : Below w.heap.size w wr
section
variable {w wr : World} {g s p b r : Int} {o : Bool}
theorem SuI.far (h : SuI w g s p b r o wr) (i : Nat) (v : Value) : Blk (wr.setCell ⟨w.heap.size + 1, i, none⟩ v) w.heap.size 52 (psC 0 0 0 0 0 false) ∧ Below w.heap.size w (wr.setCell ⟨w.heap.size + 1, i, none⟩ v) :=
  ⟨h.z.far (p := ⟨w.heap.size + 1, i, none⟩) (by simp) _, h.be.setCell (p := ⟨w.heap.size + 1, i, none⟩) (by simp) _⟩
theorem SuI.drew (h : SuI w g s p b r o wr) : SuI w g s p b r o wr.drew := ⟨h.bx.drew, h.z.drew, h.be.drew⟩
theorem SuI.set0 (h : SuI w g s p b r o wr) (u : Int) : SuI w u s p b r o (wr.setCell ⟨w.heap.size + 1, 0, none⟩ (.int .i64 u)) := ⟨h.bx.set_ 0 _, (h.far 0 _).1, (h.far 0 _).2⟩
theorem SuI.set1 (h : SuI w g s p b r o wr) (u : Int) : SuI w g u p b r o (wr.setCell ⟨w.heap.size + 1, 1, none⟩ (.int .i64 u)) := ⟨h.bx.set_ 1 _, (h.far 1 _).1, (h.far 1 _).2⟩
theorem SuI.set2 (h : SuI w g s p b r o wr) (u : Int) : SuI w g s u b r o (wr.setCell ⟨w.heap.size + 1, 2, none⟩ (.int .i64 u)) := ⟨h.bx.set_ 2 _, (h.far 2 _).1, (h.far 2 _).2⟩
theorem SuI.set3 (h : SuI w g s p b r o wr) (u : Int) : SuI w g s p u r o (wr.setCell ⟨w.heap.size + 1, 3, none⟩ (.int .i64 u)) := ⟨h.bx.set_ 3 _, (h.far 3 _).1, (h.far 3 _).2⟩
theorem SuI.set4 (h : SuI w g s p b r o wr) (u : Int) : SuI w g s p b u o (wr.setCell ⟨w.heap.size + 1, 4, none⟩ (.int .i64 u)) := ⟨h.bx.set_ 4 _, (h.far 4 _).1, (h.far 4 _).2⟩
theorem SuI.set5 (h : SuI w g s p b r o wr) (u : Bool) : SuI w g s p b r u (wr.setCell ⟨w.heap.size + 1, 5, none⟩ (.bool u)) := ⟨h.bx.set_ 5 _, (h.far 5 _).1, (h.far 5 _).2⟩
end
set_option maxRecDepth 100000 in
set_option maxHeartbeats 16000000 in
theorem sum20_any (A : Option Addr) (n cap : Nat) (P : List Ps) (w : World) (hs : SV w 6 A n cap (P.map encPs)) (hp : ∀ y ∈ P, 0 ≤ y.p ∧ y.p ≤ 1000000000000000) (hn1 : n ≤ 1000) :
    Calls Tryz.prog 15 #[.slice A n cap] w (SumPs P w) := by
  have HN := hide (show P.length = n by have := hs.len; simpa using this)
  have HS := hide hs
  have HP := hide hp
  have HQ := hide (psum_bd hp)
  have hle := hs.le
  clear hs hp
  obtain ⟨w1, hw1⟩ : ∃ W, (w.alloc (.cells (psC 0 0 0 0 0 false) 52)).alloc (.cells (psC 0 0 0 0 0 false) 52) = W := ⟨_, rfl⟩
  have HZ := hide (show Blk w1 w.heap.size 52 (psC 0 0 0 0 0 false) by rw [← hw1]; exact (Blk.new _ _ _).alloc _)
  have HB := hide (show Blk w1 (w.heap.size + 1) 52 (psC 0 0 0 0 0 false) by rw [← hw1]; exact Blk.new' (by simp))
  have H1 := hide (show Below w.heap.size w w1 by rw [← hw1]; exact ((Below.refl _ _).alloc (Nat.le_refl _) _).alloc (by simp) _)
  have HW := hide hw1
  clear hw1
  go_enter Tryz.func15, Tryz.ntmps15
  go_upto_region 3 with fail
  rw [show (w.alloc (.cells #[.int .i64 0, .int .i64 0, .int .i64 0, .int .i64 0, .int .i64 0, .bool false] 52)).alloc (.cells #[.int .i64 0, .int .i64 0, .int .i64 0, .int .i64 0, .int .i64 0, .bool false] 52) = w1 from HW.out]
  go_loopw [4] (fun q4 wr => ∃ (k : Nat) (g s p b r : Int) (o : Bool), k ≤ n ∧ q4 = .int .i64 k ∧ ((P.take k).map (fun y => y.p)).sum = p ∧ SuI w g s p b r o wr) (fun q _ => n - (RowKit.intOf q).toNat)
  case atStart => exact ⟨0, 0, 0, 0, 0, 0, false, Nat.zero_le _, rfl, rfl, ⟨HB.out, HZ.out, H1.out⟩⟩
  case round =>
    rename World => wo
    obtain ⟨k, g, s, p, b, r, o, hk, rfl, hp, hI⟩ := hrel
    have HI := hide hI
    have hpb := HQ.out k
    rw [hp] at hpb
    by_cases hlt : k < n
    · obtain ⟨y, hy⟩ := get_of (l := P) (k := k) (by rw [HN.out]; exact hlt)
      obtain ⟨yb, yo, hA, hbl, e0, e1, e2, e3, e4, e5⟩ := HS.out.sl.ps hy
      have hyp := HP.out y (List.mem_of_getElem? hy)
      have HT := hide (show ((P.take (k + 1)).map (fun y => y.p)).sum = p + y.p by rw [psum_take hy, hp])
      have hk0 : (0 : Int) ≤ (k : Int) := by omega
      have hk1 : (k : Int) < (n : Int) := by omega
      have hpw : 0 ≤ p + y.p ∧ p + y.p ≤ 2000000000000000000 := by omega
      have HE := hide (show ∀ W : World, Below w.heap.size w W → W.cell? ⟨yb, yo + k * 6, none⟩ = some (.int .i64 y.g) ∧ W.cell? ⟨yb, yo + k * 6 + 1, none⟩ = some (.int .i64 y.s) ∧ W.cell? ⟨yb, yo + k * 6 + 2, none⟩ = some (.int .i64 y.p) ∧ W.cell? ⟨yb, yo + k * 6 + 3, none⟩ = some (.int .i64 y.b) ∧ W.cell? ⟨yb, yo + k * 6 + 4, none⟩ = some (.int .i64 y.r) ∧ W.cell? ⟨yb, yo + k * 6 + 5, none⟩ = some (.bool y.o) from
        fun W hW => ⟨kept hW e0, kept hW e1, kept hW e2, kept hW e3, kept hW e4, kept hW e5⟩)
      obtain ⟨o', ho'⟩ : ∃ o, y.o = o := ⟨_, rfl⟩
      rw [ho'] at HE
      subst hA
      clear hy hp hI hpb hyp e0 e1 e2 e3 e4 e5 ho'
      go_upto_region 5 with fail
      obtain ⟨e0, e1, e2, e3, e4, e5⟩ := HE.out wo HI.out.be
      obtain ⟨x0, x1, x2, x3, x4, x5⟩ := ps_cells HI.out.bx
      have z0 := HI.out.bx.frozen 0
      clear e1 e2 e3 e4 e5 x1 x2 x3 x4 x5
      go_cut [20] from 12 to 20 (fun _ W => ∃ u : Int, W = (wo.setCell ⟨w.heap.size + 1, 0, none⟩ (.int .i64 u)).drew)
      case first =>
        go_region_law (fail)
        all_goals
          go_wp2_with fail
          go_meet
          exact ⟨_, rfl⟩
      case rest =>
      obtain ⟨u0, hcut⟩ := hcut
      subst hcut
      have HI0 := hide ((HI.out.set0 u0).drew)
      obtain ⟨v0, hW0⟩ : ∃ W, (wo.setCell ⟨w.heap.size + 1, 0, none⟩ (.int .i64 u0)).drew = W := ⟨_, rfl⟩
      rw [hW0] at HI0 ⊢
      clear hW0 e0 x0 z0
      obtain ⟨e0, e1, e2, e3, e4, e5⟩ := HE.out v0 HI0.out.be
      obtain ⟨x0, x1, x2, x3, x4, x5⟩ := ps_cells HI0.out.bx
      have z1 := HI0.out.bx.frozen 1
      clear e0 e2 e3 e4 e5 x0 x2 x3 x4 x5
      go_upto_region 6 with fail
      go_cut [29] from 21 to 29 (fun _ W => ∃ u : Int, W = (v0.setCell ⟨w.heap.size + 1, 1, none⟩ (.int .i64 u)).drew)
      case first =>
        go_region_law (fail)
        all_goals
          go_wp2_with fail
          go_meet
          exact ⟨_, rfl⟩
      case rest =>
      obtain ⟨u1, hcut⟩ := hcut
      subst hcut
      have HI1 := hide ((HI0.out.set1 u1).drew)
      obtain ⟨v1, hW1⟩ : ∃ W, (v0.setCell ⟨w.heap.size + 1, 1, none⟩ (.int .i64 u1)).drew = W := ⟨_, rfl⟩
      rw [hW1] at HI1 ⊢
      clear hW1 e1 x1 z1
      obtain ⟨e0, e1, e2, e3, e4, e5⟩ := HE.out v1 HI1.out.be
      obtain ⟨x0, x1, x2, x3, x4, x5⟩ := ps_cells HI1.out.bx
      have z2 := HI1.out.bx.frozen 2
      clear e0 e1 e3 e4 e5 x0 x1 x3 x4 x5
      have hwv : IntKind.i64.wrap (p + y.p) = p + y.p := IntWalk.i64_in _ (by omega)
      go_upto_region 7 with fail
      go_cut [38] from 30 to 38 (fun _ W => W = (v1.setCell ⟨w.heap.size + 1, 2, none⟩ (.int .i64 (p + y.p))).drew)
      case first =>
        go_region_law (fail)
        all_goals
          go_wp2_with fail
          go_meet
          exact rfl
      case rest =>
      subst hcut
      have HI2 := hide ((HI1.out.set2 (p + y.p)).drew)
      obtain ⟨v2, hW2⟩ : ∃ W, (v1.setCell ⟨w.heap.size + 1, 2, none⟩ (.int .i64 (p + y.p))).drew = W := ⟨_, rfl⟩
      rw [hW2] at HI2 ⊢
      clear hW2 e2 x2 z2 hwv
      obtain ⟨e0, e1, e2, e3, e4, e5⟩ := HE.out v2 HI2.out.be
      obtain ⟨x0, x1, x2, x3, x4, x5⟩ := ps_cells HI2.out.bx
      have z3 := HI2.out.bx.frozen 3
      clear e0 e1 e2 e4 e5 x0 x1 x2 x4 x5
      go_upto_region 8 with fail
      go_cut [47] from 39 to 47 (fun _ W => ∃ u : Int, W = (v2.setCell ⟨w.heap.size + 1, 3, none⟩ (.int .i64 u)).drew)
      case first =>
        go_region_law (fail)
        all_goals
          go_wp2_with fail
          go_meet
          exact ⟨_, rfl⟩
      case rest =>
      obtain ⟨u3, hcut⟩ := hcut
      subst hcut
      have HI3 := hide ((HI2.out.set3 u3).drew)
      obtain ⟨v3, hW3⟩ : ∃ W, (v2.setCell ⟨w.heap.size + 1, 3, none⟩ (.int .i64 u3)).drew = W := ⟨_, rfl⟩
      rw [hW3] at HI3 ⊢
      clear hW3 e3 x3 z3
      obtain ⟨e0, e1, e2, e3, e4, e5⟩ := HE.out v3 HI3.out.be
      obtain ⟨x0, x1, x2, x3, x4, x5⟩ := ps_cells HI3.out.bx
      have z4 := HI3.out.bx.frozen 4
      clear e0 e1 e2 e3 e5 x0 x1 x2 x3 x5
      go_upto_region 9 with fail
      go_cut [56] from 48 to 56 (fun _ W => ∃ u : Int, W = (v3.setCell ⟨w.heap.size + 1, 4, none⟩ (.int .i64 u)).drew)
      case first =>
        go_region_law (fail)
        all_goals
          go_wp2_with fail
          go_meet
          exact ⟨_, rfl⟩
      case rest =>
      obtain ⟨u4, hcut⟩ := hcut
      subst hcut
      have HI4 := hide ((HI3.out.set4 u4).drew)
      obtain ⟨v4, hW4⟩ : ∃ W, (v3.setCell ⟨w.heap.size + 1, 4, none⟩ (.int .i64 u4)).drew = W := ⟨_, rfl⟩
      rw [hW4] at HI4 ⊢
      clear hW4 e4 x4 z4
      obtain ⟨e0, e1, e2, e3, e4, e5⟩ := HE.out v4 HI4.out.be
      obtain ⟨x0, x1, x2, x3, x4, x5⟩ := ps_cells HI4.out.bx
      have z5 := HI4.out.bx.frozen 5
      clear e0 e1 e2 e3 e4 x0 x1 x2 x3 x4
      cases o'
      · go_wp2_with fail
        go_roundw
        case rel => exact ⟨k + 1, u0, u1, p + y.p, u3, u4, o, by omega, by go_num, HT.out, HI4.out⟩
        case measure => simp [RowKit.intOf]; omega
      · go_wp2_with fail
        go_roundw
        case rel => exact ⟨k + 1, u0, u1, p + y.p, u3, u4, true, by omega, by go_num, HT.out, HI4.out.set5 true⟩
        case measure => simp [RowKit.intOf]; omega
    · obtain rfl : k = n := by omega
      rw [List.take_of_length_le (by rw [HN.out]; exact Nat.le_refl _)] at hp
      obtain ⟨x0, x1, x2, x3, x4, x5⟩ := ps_cells hI.bx
      obtain ⟨y0, y1, y2, y3, y4, y5⟩ := ps_cells hI.z
      have z0 := hI.z.frozen 0
      have z1 := hI.z.frozen 1
      have z2 := hI.z.frozen 2
      have z3 := hI.z.frozen 3
      have z4 := hI.z.frozen 4
      have z5 := hI.z.frozen 5
      have HPP := hide hp
      clear hI hp hpb
      go_wp2_with fail
      refine ret_row (p := 2) (ty := 52) (g := w.heap.size) (t := 52) rfl rfl rfl (set6P HI.out.z _ _ _ _ _ _) Tryz.underlying52 rfl (by kernel_rfl) ⟨bel6 HI.out.be (Nat.le_refl _) _ _ _ _ _ _, g, s, b, r, o, by rw [HPP.out]⟩
end Go.Proofs.YtmfohnchnbgbaaaGreatDoor
