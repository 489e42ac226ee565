/- A triangle of zeros: the document's. -/
import Derived.Test.YtclcjonogjinfaaTriT
import Derived.Test.YtclcjonogjinfaaTriJ
namespace Go.Proofs.Ytclcjonogjinfaa
open Go.RowKit

def EmptyPost (w : World) (f : Int) (n : Nat) (e : Ending) (w' : World) : Prop :=
  ∃ A' c' R, e = .returned (.agg #[.int .i64 f, .slice A' n c']) ∧ MV w' A' n c' R ∧ allM R = zerosT n ∧ FreshT w A' R ∧ Below w.heap.size w w'
set_option maxRecDepth 100000 in
set_option maxHeartbeats 4000000 in
theorem emptyR_any (f : Int) (n : Nat) (hn : n ≤ 20) (w : World) : Calls Try.prog 25 #[.int .i64 f, .int .i64 n] w (EmptyPost w f n) := by
  go_enter Try.func25, Try.ntmps25
  go_wp2_with fail
  obtain ⟨w3, hw3⟩ : ∃ W, w.alloc (.cells #[.int .i64 0, .slice none 0 0] 24) = W := ⟨_, rfl⟩
  have hz : Blk w3 w.heap.size 24 zeroT := by rw [← hw3]; exact Blk.new _ _ _
  have hb3 : Below w.heap.size w w3 := by rw [← hw3]; exact (Below.refl _ _).alloc (Nat.le_refl _) _
  have hsz : w3.heap.size = w.heap.size + 1 := by rw [← hw3]; simp
  rw [hw3, ← hsz]
  have HZ3 := hide hz
  have HB3 := hide hb3
  have hzl := hz.lt
  clear hz hb3 hw3 hsz
  obtain ⟨w4, hw4⟩ : ∃ W, w3.alloc (.cells #[.int .i64 f, .slice none 0 0] 24) = W := ⟨_, rfl⟩
  have hT0 : TS w3 w3.heap.size f [] [] none 0 w4 := by
    rw [← hw4]
    exact ⟨Blk.new _ _ _, OwnS.nil_ _ _ _ _, (fun r hr => by simp at hr), (fun r hr => by simp at hr), (fun i j r s hr => by simp at hr), by simp [blk], Nat.le_refl _, (Below.refl _ _).alloc (Nat.le_refl _) _⟩
  rw [hw4]
  obtain ⟨G, hG⟩ : ∃ G, w3.heap.size = G := ⟨_, rfl⟩
  rw [hG] at hT0 ⊢
  have HT0 := hide hT0
  have HG := hide hG
  clear hw4 hT0 hG
  go_loopw [6] (fun i wr => ∃ (k : Nat) (R : List Rw) (A' : Option Addr) (cap' : Nat), k ≤ n ∧ i = .int .i64 k ∧ R.length = k ∧ allM R = (zerosT n).take k ∧ TS w3 G f R [] A' cap' wr) (fun i _ => n - (intOf i).toNat)
  case atStart => exact ⟨0, [], none, 0, Nat.zero_le _, rfl, rfl, rfl, HT0.out⟩
  case round =>
    clear HT0
    obtain ⟨k, R, A', cap', hk, rfl, rfl, hRM, hTS⟩ := hrel
    have o0 := hTS.o0.cell 0
    have o1 := hTS.o0.cell 1
    have u1 := hTS.o0.frozen 1
    simp [triC] at o0 o1
    have hGl := hTS.o0.lt
    have hbs := hTS.bel.size
    have HTS := hide hTS
    have HRM := hide hRM
    clear hTS hRM
    by_cases hlt : R.length < n
    · obtain ⟨L, hL⟩ : ∃ L : List Int, L = List.replicate (n - R.length) 0 := ⟨_, rfl⟩
      have hLl : L.length = n - R.length := by rw [hL, List.length_replicate]
      have hLI : (n : Int) - (R.length : Int) = L.length := by omega
      have hmk := make_ints (IntKind.i64.wrap ((n : Int) - (R.length : Int))) L (by rw [IntWalk.i64_in _ (by omega)]; exact hLI) (by omega) (by rw [hLl]; exact hL)
      have hL20 : L.length ≤ 20 := by omega
      have HL := hide hL
      have hR20 : R.length ≤ 20 := by omega
      have hkn : (R.length : Int) < (n : Int) := by omega
      clear hLl hL hLI
      go_upto_region 5 with fail
      go_region_law (first
        | (refine step_app rfl (.tmp 15) (.tmp 20) 22 rfl elRow (B := w3.heap.size) (rows := R.map encRw) (A2 := some ⟨_, 0, none⟩) (news := [(⟨some ⟨wr.heap.size, 0, none⟩, L, L.length⟩ : Rw)].map encRw) rfl ?_ rfl rfl ?_ (okRw [⟨some ⟨wr.heap.size, 0, none⟩, L, L.length⟩]) ?_ ?_ ?_ ?_
           · first | exact ((HTS.out.own0.alloc _).alloc _).drew
           · first | exact sl_of_blk (cs := #[.slice (some ⟨wr.heap.size, 0, none⟩) L.length L.length]) (Blk.drew (Blk.new' (by simp)))
           · (simp only [maxLen]; omega)
           · omega
           · (simp; try omega)
           intro A2 c2 wb ho2 hg2 ha2
           have hwo : Below wr.heap.size wr (((wr.alloc (.cells (cellsI L) 3)).alloc (.cells #[.slice (some ⟨wr.heap.size, 0, none⟩) L.length L.length] 28)).drew) := (((Below.refl _ _).alloc (Nat.le_refl _) _).alloc (by simp) _).drew
           have hP2 := HTS.out.add (r := ⟨some ⟨wr.heap.size, 0, none⟩, L, L.length⟩) hwo ⟨wr.heap.size, rfl, rfl, by simp only; omega, ((Blk.new wr 3 (cellsI L)).alloc _).drew⟩ (fun kk hk => by simp only [blk] at hk; cases hk; exact Nat.le_refl _) ho2 hg2 ha2
           have HP2 := hide hP2
           have hgo := Blk.grown (HTS.out.below hwo).o0 hg2 (fun he => HTS.out.ne he.symm)
           have d6 := hgo.cell 1
           have v6 := hgo.frozen 1
           simp [triC] at d6
           clear hP2 hgo hwo))
      all_goals
        go_wp2_with fail
        go_roundw
        case rel => exact ⟨R.length + 1, R ++ [⟨some ⟨wr.heap.size, 0, none⟩, L, L.length⟩], A2, c2, by omega, by go_num, by simp, by rw [allM, List.map_append, take_of (zerosT_get hlt), ← HL.out]; exact congrArg (· ++ [L]) HRM.out, HP2.out⟩
        case measure => simp [intOf]; omega
    · have e : R.length = n := by omega
      have hRM := HRM.out
      rw [e, List.take_of_length_le (by rw [zerosT_len]; exact Nat.le_refl _)] at hRM
      have hzW := HZ3.out.below HTS.out.bel hzl
      have z0 := hzW.cell 0
      have z1 := hzW.cell 1
      have t0 := hzW.frozen 0
      have t1 := hzW.frozen 1
      simp [zeroT] at z0 z1
      have HRM2 := hide hRM
      have HE := hide e
      clear hRM e hzW hk
      go_wp2_with fail
      have hz' := HZ3.out.below HTS.out.bel hzl
      refine ret_row rfl rfl rfl (g := w.heap.size) (cs := triC f A' R.length cap') (t := 24) ?_ Try.underlying24 rfl (by kernel_rfl) ?_
      · have := (hz'.set_ 0 (.int .i64 f)).set_ 1 (.slice A' R.length cap')
        simpa [zeroT, triC] using this
      · refine ⟨A', cap', R, by rw [← HE.out]; rfl, by rw [← HE.out]; exact HTS.out.mvfar (p := ⟨w.heap.size, 0, none⟩) (q := ⟨w.heap.size, 1, none⟩) hzl hzl _ _, HRM2.out, ⟨fun kk hk => Nat.le_trans HB3.out.size (HTS.out.own.lt kk hk).1, fun r hr kk hk => Nat.le_trans HB3.out.size (HTS.out.ap r hr kk hk).1⟩, ((chain HB3.out HTS.out.bel).setCell (p := ⟨w.heap.size, 0, none⟩) (Nat.le_refl _) _).setCell (p := ⟨w.heap.size, 1, none⟩) (Nat.le_refl _) _⟩
end Go.Proofs.Ytclcjonogjinfaa
