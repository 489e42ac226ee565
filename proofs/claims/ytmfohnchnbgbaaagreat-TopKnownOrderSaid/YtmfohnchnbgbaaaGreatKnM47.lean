/- Part 47 of the proof. -/
import Derived.Deep.RegionHeld3
import Derived.Test.YtmfohnchnbgbaaaGreatKnM13
import Derived.Test.YtmfohnchnbgbaaaGreatKnM46
/- Days and their numbers: the program's functions. -/
namespace Go.Proofs.YtmfohnchnbgbaaaGreat
open Go.RowKit
set_option maxRecDepth 100000

set_option maxHeartbeats 1000000 in
theorem right_any_Day (y m d : Int) (w : World) : Calls Tryz.prog 183 #[.agg #[.int .i64 y, .int .i64 m, .int .i64 d]] w fun e w' => e = .returned (.bool (rightB y m d)) ∧ Below w.heap.size w w' := by
  by_cases h : 1601 ≤ y ∧ y ≤ 2400 ∧ 1 ≤ m ∧ m ≤ 12
  · obtain ⟨h1, h2, h3, h4⟩ := h
    have hix := index_lens y m h3 h4
    have hlb := lenM_bd y m
    by_cases hd : 1 ≤ d
    · go_enter Tryz.func183, Tryz.ntmps183
      go_wp2_with fail
      have hwr : IntKind.i64.wrap (m - 1) = m - 1 := IntWalk.i64_in _ (by omega)
      go_region_held3 (fun w' => w'.cell? ⟨w.heap.size, 0, none⟩ = some (.int .i64 y) ∧ w'.cell? ⟨w.heap.size, 1, none⟩ = some (.int .i64 m) ∧ w'.cell? ⟨w.heap.size, 2, none⟩ = some (.int .i64 d)) (go_keep)
        (first | (go_at_call 137; refine (lengths_any _ _).mono ?_; rintro e w1 ⟨rfl, hb1⟩; have q0 : w1.cell? ⟨w.heap.size, 0, none⟩ = some (.int .i64 y) := kept hb1 (by simp); have q1 : w1.cell? ⟨w.heap.size, 1, none⟩ = some (.int .i64 m) := kept hb1 (by simp); have q2 : w1.cell? ⟨w.heap.size, 2, none⟩ = some (.int .i64 d) := kept hb1 (by simp)))
      clear hwr
      go_wp2_with fail
      go_ret
      exact ⟨ret_bool (by rw [Bool.eq_iff_iff]; simp [rightB]; omega), chain ((Below.refl _ _).alloc (Nat.le_refl _) _).drew hb1⟩
    · have hd' : decide (1 ≤ d) = false := by simp; omega
      go_enter Tryz.func183, Tryz.ntmps183
      go_wp2_with fail
      go_quiet (fail)
      go_wp2_with fail
      go_ret
      exact ⟨ret_bool (by rw [Bool.eq_iff_iff]; simp [rightB]; omega), bel_drewN ((Below.refl _ _).alloc (Nat.le_refl _) _) _⟩
  · go_enter Tryz.func183, Tryz.ntmps183
    have h' : y < 1601 ∨ (1601 ≤ y ∧ 2400 < y) ∨ (1601 ≤ y ∧ y ≤ 2400 ∧ m < 1) ∨ (1601 ≤ y ∧ y ≤ 2400 ∧ 1 ≤ m ∧ 12 < m) := by omega
    clear h
    rcases h' with h | ⟨h, h'⟩ | ⟨h, h', h''⟩ | ⟨h, h', h'', h'''⟩
    all_goals
      go_wp2_with fail
      go_ret
      exact ⟨ret_bool (by rw [Bool.eq_iff_iff]; simp [rightB]; omega), (Below.refl _ _).alloc (Nat.le_refl _) _⟩

theorem lengths_lit (y : Int) (w : World) : Calls Tryz.prog 137 #[.int .i64 y] w fun e w' => e = .returned (.agg #[.int .i64 31, .int .i64 (28 + leapI y), .int .i64 31, .int .i64 30, .int .i64 31, .int .i64 30, .int .i64 31, .int .i64 31, .int .i64 30, .int .i64 31, .int .i64 30, .int .i64 31]) ∧ Below w.heap.size w w' := lengths_any y w
theorem one12 (y : Int) : ∀ v : Value, v ∈ ([.int .i64 31, .int .i64 (28 + leapI y), .int .i64 31, .int .i64 30, .int .i64 31, .int .i64 30, .int .i64 31, .int .i64 31, .int .i64 30, .int .i64 31, .int .i64 30, .int .i64 31] : List Value) → v.oneCell' = true := by
  intro v hv
  simp at hv
  rcases hv with rfl | rfl | rfl | rfl | rfl | rfl | rfl | rfl | rfl | rfl | rfl | rfl <;> rfl
theorem inf12 (y : Int) : Option.map (fun x => x.size) (Tryz.prog.info? 241) = some ([.int .i64 31, .int .i64 (28 + leapI y), .int .i64 31, .int .i64 30, .int .i64 31, .int .i64 30, .int .i64 31, .int .i64 31, .int .i64 30, .int .i64 31, .int .i64 30, .int .i64 31] : List Value).length := by kernel_rfl
theorem setCells_box {W : World} {b b' o i : Nat} {vs : List Value} (h : b' ≠ b) : (W.setCells b o vs).cell? ⟨b', i, none⟩ = W.cell? ⟨b', i, none⟩ := World.cell?_setCells_out b vs o W _ (fun e => absurd e h)
theorem there12 (W : World) (t : TypeId) (y : Int) : (W.alloc (.cells #[.int .i64 0, .int .i64 0, .int .i64 0, .int .i64 0, .int .i64 0, .int .i64 0, .int .i64 0, .int .i64 0, .int .i64 0, .int .i64 0, .int .i64 0, .int .i64 0] t)).there W.heap.size 0 ([.int .i64 31, .int .i64 (28 + leapI y), .int .i64 31, .int .i64 30, .int .i64 31, .int .i64 30, .int .i64 31, .int .i64 31, .int .i64 30, .int .i64 31, .int .i64 30, .int .i64 31] : List Value).length := by
  intro j hj
  simp at hj
  have hb : Blk (W.alloc (.cells #[.int .i64 0, .int .i64 0, .int .i64 0, .int .i64 0, .int .i64 0, .int .i64 0, .int .i64 0, .int .i64 0, .int .i64 0, .int .i64 0, .int .i64 0, .int .i64 0] t)) W.heap.size t #[.int .i64 0, .int .i64 0, .int .i64 0, .int .i64 0, .int .i64 0, .int .i64 0, .int .i64 0, .int .i64 0, .int .i64 0, .int .i64 0, .int .i64 0, .int .i64 0] := Blk.new W t _
  rw [Nat.zero_add, hb.cell, hb.frozen]
  refine ⟨?_, rfl⟩
  simp; omega
theorem there12b {W w1 : World} {t : TypeId} {y : Int} (h : Below (W.alloc (.cells #[.int .i64 0, .int .i64 0, .int .i64 0, .int .i64 0, .int .i64 0, .int .i64 0, .int .i64 0, .int .i64 0, .int .i64 0, .int .i64 0, .int .i64 0, .int .i64 0] t)).heap.size (W.alloc (.cells #[.int .i64 0, .int .i64 0, .int .i64 0, .int .i64 0, .int .i64 0, .int .i64 0, .int .i64 0, .int .i64 0, .int .i64 0, .int .i64 0, .int .i64 0, .int .i64 0] t)) w1) : w1.there W.heap.size 0 ([.int .i64 31, .int .i64 (28 + leapI y), .int .i64 31, .int .i64 30, .int .i64 31, .int .i64 30, .int .i64 31, .int .i64 31, .int .i64 30, .int .i64 31, .int .i64 30, .int .i64 31] : List Value).length := by
  intro j hj
  have h0 := there12 W t y j hj
  rw [h.cell (p := ⟨W.heap.size, 0 + j, none⟩) (by simp), h.frozen (p := ⟨W.heap.size, 0 + j, none⟩) (by simp)]
  exact h0
theorem there12c {W w1 : World} {t : TypeId} {y : Int} (h : Below (W.alloc (.cells #[.int .i64 0, .int .i64 0, .int .i64 0, .int .i64 0, .int .i64 0, .int .i64 0, .int .i64 0, .int .i64 0, .int .i64 0, .int .i64 0, .int .i64 0, .int .i64 0] t)).drew.heap.size (W.alloc (.cells #[.int .i64 0, .int .i64 0, .int .i64 0, .int .i64 0, .int .i64 0, .int .i64 0, .int .i64 0, .int .i64 0, .int .i64 0, .int .i64 0, .int .i64 0, .int .i64 0] t)).drew w1) : w1.there W.heap.size 0 ([.int .i64 31, .int .i64 (28 + leapI y), .int .i64 31, .int .i64 30, .int .i64 31, .int .i64 30, .int .i64 31, .int .i64 31, .int .i64 30, .int .i64 31, .int .i64 30, .int .i64 31] : List Value).length := there12b (bel_undrew h)
theorem lens_at (y : Int) (k : Nat) (h : k < 12) : (lensC y)[k]? = some (.int .i64 (lenM y (k + 1))) := by
  have hk : k = 0 ∨ k = 1 ∨ k = 2 ∨ k = 3 ∨ k = 4 ∨ k = 5 ∨ k = 6 ∨ k = 7 ∨ k = 8 ∨ k = 9 ∨ k = 10 ∨ k = 11 := by omega
  rcases hk with rfl | rfl | rfl | rfl | rfl | rfl | rfl | rfl | rfl | rfl | rfl | rfl <;> simp [lensC, lenM]
def NumRel (w : World) (y m d : Int) (t4 t5 : Value) (wx : World) : Prop :=
  ∃ G, t4 = .pointer (some ⟨G, 0, none⟩) ∧ t5 = .int .i64 (aheadI y + d) ∧ Blk wx G 241 (lensC y) ∧ wx.cell? ⟨w.heap.size, 1, none⟩ = some (.int .i64 m) ∧ Below w.heap.size w wx

theorem bel_setCells {B g : Nat} {a : World} (hg : B ≤ g) : ∀ (vs : List Value) (o : Nat) (W : World), Below B a W → Below B a (W.setCells g o vs)
  | [], _, _, h => h
  | v :: vs, o, _, h => bel_setCells hg vs (o + 1) _ (h.setCell (p := ⟨g, o, none⟩) hg v)
theorem blk_setCells {g : Nat} {t : TypeId} : ∀ (vs : List Value) (o : Nat) (W : World) (cs : Array Value), Blk W g t cs → ∃ cs' : Array Value, Blk (W.setCells g o vs) g t cs' ∧ cs'.toList = cs.toList.take o ++ (vs.take (cs.size - o)) ++ cs.toList.drop (o + vs.length)
  | [], o, W, cs, h => ⟨cs, h, by simp⟩
  | v :: vs, o, W, cs, h => by
    obtain ⟨cs', h1, h2⟩ := blk_setCells vs (o + 1) _ _ (h.set_ o v)
    refine ⟨cs', h1, ?_⟩
    rw [h2]
    simp only [Array.toList_setIfInBounds, Array.size_setIfInBounds]
    by_cases ho : o < cs.size
    · rw [List.take_set, List.drop_set_of_lt (by omega), List.take_succ_eq_append_getElem (by simpa using ho), List.set_append_right _ _ (by simp; omega)]
      have e : cs.size - o = (cs.size - (o + 1)) + 1 := by omega
      rw [e, List.take_succ_cons]
      simp [Nat.min_eq_left (Nat.le_of_lt ho), Nat.add_comm, Nat.add_left_comm]
    · rw [List.set_eq_of_length_le (by simp; omega)]
      have e : cs.size - o = 0 := by omega
      have e' : cs.size - (o + 1) = 0 := by omega
      rw [e, e']
      simp only [List.take_zero, List.append_nil, List.length_cons]
      rw [List.take_of_length_le (by simp; omega), List.take_of_length_le (by simp; omega), List.drop_eq_nil_of_le (by simp; omega), List.drop_eq_nil_of_le (by simp; omega)]
theorem blk_all {g : Nat} {t : TypeId} {W : World} {cs : Array Value} {vs : List Value} (h : Blk W g t cs) (hl : vs.length = cs.size) : Blk (W.setCells g 0 vs) g t vs.toArray := by
  obtain ⟨cs', h1, h2⟩ := blk_setCells vs 0 W cs h
  have e : cs' = vs.toArray := by
    apply Array.toList_inj.1
    rw [h2]
    simp only [List.take_zero, List.nil_append, Nat.sub_zero, Nat.zero_add]
    rw [List.take_of_length_le (by omega), List.drop_eq_nil_of_le (by simp; omega)]
    simp
  rw [← e]
  exact h1
theorem numRelA {w w1 : World} {y m d : Int} (hb : Below w.heap.size w w1) (hc : w1.cell? ⟨w.heap.size, 1, none⟩ = some (.int .i64 m)) (hz : w.heap.size < w1.heap.size) :
    NumRel w y m d (.pointer (some ⟨w1.heap.size, 0, none⟩)) (.int .i64 (aheadI y + d)) ((w1.alloc (.cells #[.int .i64 0, .int .i64 0, .int .i64 0, .int .i64 0, .int .i64 0, .int .i64 0, .int .i64 0, .int .i64 0, .int .i64 0, .int .i64 0, .int .i64 0, .int .i64 0] 241)).setCells w1.heap.size 0 [.int .i64 31, .int .i64 (28 + leapI y), .int .i64 31, .int .i64 30, .int .i64 31, .int .i64 30, .int .i64 31, .int .i64 31, .int .i64 30, .int .i64 31, .int .i64 30, .int .i64 31]) :=
  ⟨_, rfl, rfl, blk_all (Blk.new w1 _ _) rfl, by rw [setCells_box (by omega), World.cell?_alloc_past _ _ _ hz, hc], bel_setCells (by omega) _ _ _ (hb.alloc hb.size _)⟩
theorem numRelB {w w1 : World} {y m d : Int} {g : Nat} (hg : w.heap.size < g) (hz : Blk w1 g 241 #[.int .i64 0, .int .i64 0, .int .i64 0, .int .i64 0, .int .i64 0, .int .i64 0, .int .i64 0, .int .i64 0, .int .i64 0, .int .i64 0, .int .i64 0, .int .i64 0]) (hb : Below w.heap.size w w1) (hc : w1.cell? ⟨w.heap.size, 1, none⟩ = some (.int .i64 m)) :
    NumRel w y m d (.pointer (some ⟨g, 0, none⟩)) (.int .i64 (aheadI y + d)) (w1.setCells g 0 [.int .i64 31, .int .i64 (28 + leapI y), .int .i64 31, .int .i64 30, .int .i64 31, .int .i64 30, .int .i64 31, .int .i64 31, .int .i64 30, .int .i64 31, .int .i64 30, .int .i64 31]) :=
  ⟨_, rfl, rfl, blk_all hz rfl, by rw [setCells_box (by omega), hc], bel_setCells (by omega) _ _ _ hb⟩

set_option maxHeartbeats 4000000 in
theorem number_yes (y m d : Int) (w : World) (hr : rightB y m d = true) : Calls Tryz.prog 138 #[.agg #[.int .i64 y, .int .i64 m, .int .i64 d]] w fun e w' => e = .returned (.tuple #[.int .i64 (numI y m d), .int .i64 0]) ∧ Below w.heap.size w w' := by
  have hr' := hr
  simp only [rightB, decide_eq_true_eq] at hr'
  obtain ⟨h1, h2, h3, h4, h5, h6⟩ := hr'
  have hlb := lenM_bd y m
  have hab := ahead_bd y h1 (by omega)
  have HR := hide hr
  clear hr
  go_enter Tryz.func138, Tryz.ntmps138
  go_wp2_with fail
  refine (right_any_Day _ _ _ _).mono ?_
  rw [HR.out]
  rintro e w0 ⟨rfl, hb0⟩
  have k0 : w0.cell? ⟨w.heap.size, 0, none⟩ = some (.int .i64 y) := kept hb0 (by simp)
  have k1 : w0.cell? ⟨w.heap.size, 1, none⟩ = some (.int .i64 m) := kept hb0 (by simp)
  have k2 : w0.cell? ⟨w.heap.size, 2, none⟩ = some (.int .i64 d) := kept hb0 (by simp)
  have hz0 : w.heap.size < w0.heap.size := block_lt_of_cell k0
  have b0 := chain1 hb0
  clear hb0
  go_wp2_with fail
  go_cut [4, 5] (fun t4 t5 wx => NumRel w y m d t4 t5 wx)
  case first =>
    have hwr : IntKind.i64.wrap (aheadI y + d) = aheadI y + d := IntWalk.i64_in _ (by omega)
    have hone := one12 y
    have hinf := inf12 y
    go_region_held3 (fun w' => w'.cell? ⟨w.heap.size, 0, none⟩ = some (.int .i64 y) ∧ w'.cell? ⟨w.heap.size, 1, none⟩ = some (.int .i64 m) ∧ w'.cell? ⟨w.heap.size, 2, none⟩ = some (.int .i64 d))
      (first | go_keep | (refine ⟨?_, ?_, ?_⟩ <;> (rw [setCells_box (by first | omega | (simp; omega))]; first | assumption | (simp [*]; done))))
      (first
        | (go_at_call 137
           refine (lengths_lit _ _).mono ?_
           rintro e w1 ⟨rfl, hb1⟩
           have q0 : w1.cell? ⟨w.heap.size, 0, none⟩ = some (.int .i64 y) := kept hb1 (by simp [*])
           have q1 : w1.cell? ⟨w.heap.size, 1, none⟩ = some (.int .i64 m) := kept hb1 (by simp [*])
           have q2 : w1.cell? ⟨w.heap.size, 2, none⟩ = some (.int .i64 d) := kept hb1 (by simp [*])
           have hz1 : w.heap.size < w1.heap.size := block_lt_of_cell q0
           have ht1 := there12 w1 241 y
           try have gz := there12c (y := y) hb1)
        | (go_at_call 34; refine (ahead_any _ (by omega) (by omega) _).mono ?_; rintro e w' ⟨rfl, rfl⟩))
    all_goals
      clear hwr hone hinf
      go_wp2_with fail
      go_meet
      first
        | with_reducible exact numRelA (chain b0.drew hb1) q1 hz1
        | with_reducible exact numRelB hz0 ((Blk.new w0 _ _).drew.below hb1 (by simp)) (chain (b0.alloc b0.size _).drew hb1) q1
  case rest =>
    obtain ⟨G, rfl, rfl, hG, hc1, hb⟩ := hcut
    go_wp2_with fail
    go_loop [5, 22] (fun t i => ∃ k : Nat, (k : Int) ≤ m - 1 ∧ i = .int .i64 k ∧ t = .int .i64 (aheadI y + d + cumM y (k + 1))) (fun _ i => (m - intOf i).toNat)
    case atStart => exact ⟨0, by omega, rfl, by simp [cumM]⟩
    case round =>
      obtain ⟨k, hk, rfl, rfl⟩ := hrel
      have hcb := cum_bd y (k + 1) (by omega)
      by_cases hlt : (k : Int) < m - 1
      · have hcs := hide (cumM_succ y (k + 1) (by omega) (by omega))
        have hcell : (lensC y)[k]? = some (.int .i64 (lenM y (k + 1))) := lens_at y k (by omega)
        have hce := hG.cell k
        rw [hcell] at hce
        have hlk := lenM_bd y (k + 1)
        clear hcell
        go_wp2_with fail
        go_round
        case rel => exact ⟨k + 1, by omega, by go_num, by have := hcs.out; go_num⟩
        case measure => simp [intOf]; omega
      · obtain rfl : m = k + 1 := by omega
        go_wp2_with fail
        go_ret2
        exact ⟨by rw [numI, show aheadI y + cumM y (↑k + 1) + d = aheadI y + d + cumM y (↑k + 1) by omega]; rfl, hb⟩

end Go.Proofs.YtmfohnchnbgbaaaGreat

/- The calendar's day of a number, and days that are shifted: the program's functions. -/
namespace Go.Proofs.YtmfohnchnbgbaaaGreat
open Go.RowKit
set_option maxRecDepth 100000

set_option maxHeartbeats 1000000 in
theorem number_no (y m d : Int) (w : World) (hr : rightB y m d = false) : Calls Tryz.prog 138 #[.agg #[.int .i64 y, .int .i64 m, .int .i64 d]] w fun e w' => e = .returned (.tuple #[.int .i64 0, .int .i64 3]) ∧ Below w.heap.size w w' := by
  have HR := hide hr
  clear hr
  go_enter Tryz.func138, Tryz.ntmps138
  go_wp2_with fail
  refine (right_any_Day _ _ _ _).mono ?_
  rw [HR.out]
  rintro e w0 ⟨rfl, hb0⟩
  go_wp2_with fail
  go_ret2
  exact ⟨rfl, chain1 hb0⟩

def zero3 : Array Value := #[.int .i64 0, .int .i64 0, .int .i64 0]
theorem set3 {w : World} {g : Nat} {t : TypeId} (h : Blk w g t zero3) (u0 u1 u2 : Value) :
    Blk (((w.setCell ⟨g, 0, none⟩ u0).setCell ⟨g, 1, none⟩ u1).setCell ⟨g, 2, none⟩ u2) g t #[u0, u1, u2] := by
  have h3 := ((h.set_ 0 u0).set_ 1 u1).set_ 2 u2
  simpa [zero3] using h3

theorem index_lens' (y : Int) (k : Nat) (h : k < 12) (w : World) : (Instr.index 241 (.agg (lensC y)) (.int .i64 k)).run Tryz.prog w = .ok (.int .i64 (lenM y (k + 1))) w := by
  have := index_lens y (k + 1) (by omega) (by omega) w
  rwa [show (k : Int) + 1 - 1 = k by omega] at this

set_option maxHeartbeats 2000000 in
theorem of_yes_Day (n : Int) (w : World) (h1 : 1 ≤ n) (h2 : n ≤ 292194) : Calls Tryz.prog 136 #[.int .i64 n] w (OfPost n w) := by
  obtain ⟨hy1, hy2, hy3, hy4⟩ := yearI_ok n h1 h2
  obtain ⟨y, hy⟩ : ∃ y, yearI n = y := ⟨_, rfl⟩
  rw [hy] at hy1 hy2 hy3 hy4
  have HY := hide hy
  clear hy
  go_enter Tryz.func136, Tryz.ntmps136
  go_wp2_with fail
  refine (year_val _ _ h1 h2).mono ?_
  rw [HY.out]
  rintro e w' ⟨rfl, rfl⟩
  have hls := leap_of_ahead y
  have hab := ahead_bd y hy1 (by omega)
  have hl01 := leap_01 y
  have HLS := hide hls
  clear hls
  go_wp2_with (go_at_call 34; refine (ahead_any _ (by omega) (by omega) _).mono ?_; rintro e w' ⟨rfl, rfl⟩)
  refine (lengths_any _ _).mono ?_
  rintro e w1 ⟨rfl, hb1⟩
  have hz := (Blk.new' (w := w) (t := 238) (cs := zero3) (g := w.heap.size) rfl).alloc (.cells #[.int .i64 y, .int .i64 1, .int .i64 (n - aheadI y)] 238) |>.below hb1 (by simp; omega)
  have hc := (Blk.new' (w := w.alloc (.cells zero3 238)) (t := 238) (cs := #[.int .i64 y, .int .i64 1, .int .i64 (n - aheadI y)]) (g := w.heap.size + 1) (by simp)) |>.below hb1 (by simp)
  have hb := chain (((Below.refl w.heap.size w).alloc (Nat.le_refl _) _).alloc (by simp) _) hb1
  clear hb1
  go_wp2_with fail
  go_loopw [26, 8] (fun i t wr => ∃ k : Nat, k < 12 ∧ i = .int .i64 k ∧ 1 ≤ n - aheadI y - cumM y (k + 1) ∧ Blk wr w.heap.size 238 zero3 ∧ Blk wr (w.heap.size + 1) 238 #[.int .i64 y, .int .i64 (k + 1), .int .i64 (n - aheadI y - cumM y (k + 1))] ∧ Below w.heap.size w wr) (fun i _ _ => 12 - (intOf i).toNat)
  case atStart => exact ⟨0, by omega, rfl, by simp [cumM]; omega, hz, by simpa [cumM] using hc, hb⟩
  case round =>
    clear hz hc hb
    obtain ⟨k, hk, rfl, hd1, hz, hc, hb⟩ := hrel
    have hcb := cum_bd y (k + 1) (by omega)
    have hix := index_lens' y k hk
    have hlk := lenM_bd y (k + 1)
    have hcs := cumM_succ y (k + 1) (by omega) (by omega)
    have c0 := hc.cell 0
    have c1 := hc.cell 1
    have c2 := hc.cell 2
    have f1 := hc.frozen 1
    have f2 := hc.frozen 2
    simp at c0 c1 c2
    by_cases hbr : n - aheadI y - cumM y (k + 1) ≤ lenM y (k + 1)
    · have z0 := hz.cell 0
      have z1 := hz.cell 1
      have z2 := hz.cell 2
      have g0 := hz.frozen 0
      have g1 := hz.frozen 1
      have g2 := hz.frozen 2
      simp [zero3] at z0 z1 z2
      have HCS := hide hcs
      clear hcs
      go_wp2_with fail
      refine ret_row2 (p := 2) (u := 3) (ty := 238) (g := w.heap.size) (x := .int .i64 0) rfl rfl rfl rfl (set3 hz _ _ _) Tryz.underlying238 rfl (by kernel_rfl) ⟨y, k + 1, n - aheadI y - cumM y (k + 1), rfl, ?_, ?_, ((hb.setCell (by simp) _).setCell (by simp) _).setCell (by simp) _⟩
      · simp only [rightB, decide_eq_true_eq]
        omega
      · simp only [numI]
        omega
    · have hk11 : k < 11 := by
        have hls := HLS.out
        rcases Nat.lt_or_ge k 11 with h | h
        · exact h
        · obtain rfl : k = 11 := by omega
          have e1 : cumM y ((11 : Nat) + 1) = 334 + leapI y := by simp [cumM]
          have e2 : lenM y ((11 : Nat) + 1) = 31 := by simp [lenM]
          rw [e1, e2] at hbr
          omega
      have HCS := hide hcs
      clear hcs
      go_wp2_with fail
      go_roundw
      case rel =>
        refine ⟨k + 1, by omega, by go_num, ?_, hz.far (by simp) _ |>.far (by simp) _, ?_, (hb.setCell (by simp) _).setCell (by simp) _⟩
        · have := HCS.out
          rw [show ((k + 1 : Nat) : Int) + 1 = k + 1 + 1 by omega]
          omega
        · have h6 := (hc.set_ 2 (.int .i64 (n - aheadI y - cumM y (k + 1) - lenM y (k + 1)))).set_ 1 (.int .i64 (k + 1 + 1))
          simp at h6
          rw [show ((k + 1 : Nat) : Int) + 1 = k + 1 + 1 by omega, HCS.out, show n - aheadI y - (cumM y (↑k + 1) + lenM y (↑k + 1)) = n - aheadI y - cumM y (k + 1) - lenM y (k + 1) by omega]
          exact h6
      case measure => simp [intOf]; omega

set_option maxHeartbeats 1000000 in
theorem of_no_Day (n : Int) (w : World) (h : ¬(1 ≤ n ∧ n ≤ 292194)) : Calls Tryz.prog 136 #[.int .i64 n] w fun e w' => e = .returned (.tuple #[.agg #[.int .i64 0, .int .i64 0, .int .i64 0], .int .i64 3]) ∧ Below w.heap.size w w' := by
  have H := hide h
  clear h
  go_enter Tryz.func136, Tryz.ntmps136
  go_wp2_with fail
  refine (year_bad _ _ H.out).mono ?_
  rintro e w' ⟨rfl, rfl⟩
  go_wp2_with fail
  refine ret_row2 (p := 2) (u := 3) (ty := 238) (g := w.heap.size) (x := .int .i64 3) rfl rfl rfl rfl (Blk.new w _ _) Tryz.underlying238 rfl (by kernel_rfl) ⟨rfl, (Below.refl _ _).alloc (Nat.le_refl _) _⟩
end Go.Proofs.YtmfohnchnbgbaaaGreat
