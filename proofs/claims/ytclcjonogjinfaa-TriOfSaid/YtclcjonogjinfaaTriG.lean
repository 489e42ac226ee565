/- A row with more in it, from one cell on: the document's. -/
import Derived.Test.YtclcjonogjinfaaTriF
namespace Go.Proofs.Ytclcjonogjinfaa
open Go.RowKit

def moreF (dev amt : Int) (k : Nat) (v : Int) : Int := if dev ≤ (k : Int) then v + amt else v
def moreL (dev amt : Int) (l : List Int) : List Int := l.mapIdx (moreF dev amt)
def capB (l : List Int) : Bool := l.all fun v => decide (v ≤ 100000000000000000)
theorem moreL_take {dev amt : Int} {l : List Int} {k : Nat} {v : Int} (h : l[k]? = some v) : moreL dev amt (l.take (k + 1)) = moreL dev amt (l.take k) ++ [moreF dev amt k v] := by
  have hk := lt_of_get h
  rw [take_of h, moreL, moreL, List.mapIdx_concat, List.length_take, Nat.min_eq_left (by omega)]
theorem moreL_len (dev amt : Int) (l : List Int) : (moreL dev amt l).length = l.length := by simp [moreL]
theorem moreL_get {dev amt : Int} {l : List Int} {k : Nat} {v : Int} (h : l[k]? = some v) : (moreL dev amt l)[k]? = some (moreF dev amt k v) := by simp [moreL, h]
def MoreYes (w : World) (L : List Int) (n : Nat) (e : Ending) (w' : World) : Prop := ∃ A' c', e = .returned (.tuple #[.slice A' n c', .bool true]) ∧ SV w' 1 A' n c' (L.map encI) ∧ Below w.heap.size w w' ∧ ∀ kk, blk A' = some kk → w.heap.size ≤ kk

set_option maxHeartbeats 2000000 in
theorem more_yes (A : Option Addr) (cap : Nat) (l : List Int) (dev amt : Int) (w : World) (hs : SV w 1 A l.length cap (l.map encI)) (hl : ∀ v ∈ l, 0 ≤ v ∧ v ≤ 100000000000000000) (hm : l.length ≤ 1000) (ha : 0 ≤ amt ∧ amt ≤ 1000000000000000) (hc : capB (moreL dev amt l) = true) :
    Calls Try.prog 31 #[.slice A l.length cap, .int .i64 dev, .int .i64 amt] w (MoreYes w (moreL dev amt l) l.length) := by
  obtain ⟨ha0, ha1⟩ := ha
  have HS := hide hs
  have HL := hide hl
  have HC := hide (fun (k : Nat) (v : Int) (h : l[k]? = some v) => (show moreF dev amt k v ≤ 100000000000000000 by
    simp only [capB, List.all_eq_true, decide_eq_true_eq] at hc
    exact hc _ (List.mem_of_getElem? (moreL_get h))))
  clear hs hl hc
  go_enter Try.func31, Try.ntmps31
  go_wp2_with fail
  go_loopw [8, 9] (fun t i wr => ∃ (k : Nat) (A' : Option Addr) (cap' : Nat), k ≤ l.length ∧ i = .int .i64 k ∧ t = .slice A' k cap' ∧ OwnS wr w.heap.size 3 1 A' k cap' ((moreL dev amt (l.take k)).map encI) ∧ Below w.heap.size w wr) (fun _ i _ => l.length - (intOf i).toNat)
  case atStart => exact ⟨0, none, 0, Nat.zero_le _, rfl, rfl, OwnS.nil_ _ _ _ _, Below.refl _ _⟩
  case round =>
    obtain ⟨k, A', cap', hk, rfl, rfl, ho, hb⟩ := hrel
    by_cases hlt : k < l.length
    · obtain ⟨v, hv⟩ := get_of hlt
      obtain ⟨v0, v1⟩ := HL.out v (List.mem_of_getElem? hv)
      obtain ⟨bb, off, rfl, hbl, hcv⟩ := (HS.out.below hb).sl.i hv
      have hk0 : (0 : Int) ≤ (k : Int) := by omega
      have hk1 : (k : Int) < (l.length : Int) := by omega
      have hsz := hb.size
      have HT := hide (moreL_take (dev := dev) (amt := amt) hv)
      have hcap := HC.out k v hv
      have HO := hide ho
      clear hv ho
      by_cases hd : dev ≤ (k : Int)
      · have e : moreF dev amt k v = v + amt := by rw [moreF, if_pos hd]
        rw [e] at hcap
        have E := hide e
        clear e
        go_wp2_with (at_builtin
                     refine wpList_app rfl (.tmp 29) (.tmp 31) 28 rfl elInt (B := w.heap.size) (A2 := some ⟨_, 0, none⟩) (news := [v + amt].map encI) rfl (HO.out.alloc _) rfl rfl ?_ (okI [v + amt]) ?_ ?_ ?_ ?_
                     · exact sl_of_blk (cs := #[.int .i64 (v + amt)]) (Blk.new _ _ _)
                     · simp only [maxLen]; omega
                     · omega
                     · simp; omega
                     intro A1 c1 wa ho1 hg1 ha1
                     have hba : Below w.heap.size w wa := (hb.alloc hb.size _).grown hg1 (by simp; omega) (fun kk hk => (HO.out.lt kk hk).1)
                     clear hg1 ha1)
        go_roundw
        case rel => exact ⟨k + 1, A1, c1, by omega, by go_num, rfl, by rw [HT.out, E.out, List.map_append]; exact ho1, hba⟩
        case measure => simp [intOf]; omega
      · have e : moreF dev amt k v = v := by rw [moreF, if_neg hd]
        have E := hide e
        clear e hcap
        go_wp2_with (at_builtin
                     refine wpList_app rfl (.tmp 29) (.tmp 31) 28 rfl elInt (B := w.heap.size) (A2 := some ⟨_, 0, none⟩) (news := [v].map encI) rfl (HO.out.alloc _) rfl rfl ?_ (okI [v]) ?_ ?_ ?_ ?_
                     · exact sl_of_blk (cs := #[.int .i64 v]) (Blk.new _ _ _)
                     · simp only [maxLen]; omega
                     · omega
                     · simp; omega
                     intro A1 c1 wa ho1 hg1 ha1
                     have hba : Below w.heap.size w wa := (hb.alloc hb.size _).grown hg1 (by simp; omega) (fun kk hk => (HO.out.lt kk hk).1)
                     clear hg1 ha1)
        go_roundw
        case rel => exact ⟨k + 1, A1, c1, by omega, by go_num, rfl, by rw [HT.out, E.out, List.map_append]; exact ho1, hba⟩
        case measure => simp [intOf]; omega
    · obtain rfl : k = l.length := by omega
      rw [List.take_length] at ho
      have HO := hide ho
      clear ho
      go_wp2_with fail
      go_ret2
      exact ⟨A', cap', rfl, HO.out.sv, hb, fun kk hk => (HO.out.lt kk hk).1⟩

set_option maxHeartbeats 2000000 in
theorem more_no (A : Option Addr) (cap : Nat) (l : List Int) (dev amt : Int) (w : World) (hs : SV w 1 A l.length cap (l.map encI)) (hl : ∀ v ∈ l, 0 ≤ v ∧ v ≤ 100000000000000000) (hm : l.length ≤ 1000) (ha : 0 ≤ amt ∧ amt ≤ 1000000000000000) (hc : capB (moreL dev amt l) = false) :
    Calls Try.prog 31 #[.slice A l.length cap, .int .i64 dev, .int .i64 amt] w fun e w' => e = .returned (.tuple #[.slice none 0 0, .bool false]) ∧ Below w.heap.size w w' := by
  obtain ⟨ha0, ha1⟩ := ha
  have HS := hide hs
  have HL := hide hl
  have HC := hide hc
  clear hs hl hc
  go_enter Try.func31, Try.ntmps31
  go_wp2_with fail
  go_loopw [8, 9] (fun t i wr => ∃ (k : Nat) (A' : Option Addr) (cap' : Nat), k ≤ l.length ∧ i = .int .i64 k ∧ t = .slice A' k cap' ∧ OwnS wr w.heap.size 3 1 A' k cap' ((moreL dev amt (l.take k)).map encI) ∧ capB (moreL dev amt (l.take k)) = true ∧ Below w.heap.size w wr) (fun _ i _ => l.length - (intOf i).toNat)
  case atStart => exact ⟨0, none, 0, Nat.zero_le _, rfl, rfl, OwnS.nil_ _ _ _ _, rfl, Below.refl _ _⟩
  case round =>
    obtain ⟨k, A', cap', hk, rfl, rfl, ho, hok, hb⟩ := hrel
    have HOK := hide hok
    clear hok
    by_cases hlt : k < l.length
    · obtain ⟨v, hv⟩ := get_of hlt
      obtain ⟨v0, v1⟩ := HL.out v (List.mem_of_getElem? hv)
      obtain ⟨bb, off, rfl, hbl, hcv⟩ := (HS.out.below hb).sl.i hv
      have hk0 : (0 : Int) ≤ (k : Int) := by omega
      have hk1 : (k : Int) < (l.length : Int) := by omega
      have hsz := hb.size
      have HT := hide (moreL_take (dev := dev) (amt := amt) hv)
      have HO := hide ho
      clear hv ho
      by_cases hd : dev ≤ (k : Int)
      · have e : moreF dev amt k v = v + amt := by rw [moreF, if_pos hd]
        have E := hide e
        clear e
        by_cases hg : 100000000000000000 < v + amt
        · go_wp2_with fail
          go_ret2
          exact ⟨rfl, hb⟩
        · go_wp2_with (at_builtin
                       refine wpList_app rfl (.tmp 29) (.tmp 31) 28 rfl elInt (B := w.heap.size) (A2 := some ⟨_, 0, none⟩) (news := [v + amt].map encI) rfl (HO.out.alloc _) rfl rfl ?_ (okI [v + amt]) ?_ ?_ ?_ ?_
                       · exact sl_of_blk (cs := #[.int .i64 (v + amt)]) (Blk.new _ _ _)
                       · simp only [maxLen]; omega
                       · omega
                       · simp; omega
                       intro A1 c1 wa ho1 hg1 ha1
                       have hba : Below w.heap.size w wa := (hb.alloc hb.size _).grown hg1 (by simp; omega) (fun kk hk => (HO.out.lt kk hk).1)
                       clear hg1 ha1)
          go_roundw
          case rel => exact ⟨k + 1, A1, c1, by omega, by go_num, rfl, by rw [HT.out, E.out, List.map_append]; exact ho1, by have := HOK.out; simp only [capB] at this ⊢; rw [HT.out, E.out, List.all_append, this]; simp; omega, hba⟩
          case measure => simp [intOf]; omega
      · have e : moreF dev amt k v = v := by rw [moreF, if_neg hd]
        have E := hide e
        clear e
        go_wp2_with (at_builtin
                     refine wpList_app rfl (.tmp 29) (.tmp 31) 28 rfl elInt (B := w.heap.size) (A2 := some ⟨_, 0, none⟩) (news := [v].map encI) rfl (HO.out.alloc _) rfl rfl ?_ (okI [v]) ?_ ?_ ?_ ?_
                     · exact sl_of_blk (cs := #[.int .i64 v]) (Blk.new _ _ _)
                     · simp only [maxLen]; omega
                     · omega
                     · simp; omega
                     intro A1 c1 wa ho1 hg1 ha1
                     have hba : Below w.heap.size w wa := (hb.alloc hb.size _).grown hg1 (by simp; omega) (fun kk hk => (HO.out.lt kk hk).1)
                     clear hg1 ha1)
        go_roundw
        case rel => exact ⟨k + 1, A1, c1, by omega, by go_num, rfl, by rw [HT.out, E.out, List.map_append]; exact ho1, by have := HOK.out; simp only [capB] at this ⊢; rw [HT.out, E.out, List.all_append, this]; simp; omega, hba⟩
        case measure => simp [intOf]; omega
    · obtain rfl : k = l.length := by omega
      rw [List.take_length] at HOK
      exact absurd HOK.out (by rw [HC.out]; simp)
end Go.Proofs.Ytclcjonogjinfaa
