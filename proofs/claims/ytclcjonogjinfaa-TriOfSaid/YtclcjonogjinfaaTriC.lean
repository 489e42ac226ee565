/- The last cells, the document's; two rows of numbers that are one. -/
import Derived.Test.YtclcjonogjinfaaTriB
import Derived.BigQuiet
import Derived.Deep.QuietTactic
namespace Go.Proofs.Ytclcjonogjinfaa
open Go.RowKit

set_option maxHeartbeats 1000000 in
theorem sameI_any (A A' : Option Addr) (n cap cap' : Nat) (l : List Int) (w : World) (hs : SV w 1 A n cap (l.map encI)) (hs' : SV w 1 A' n cap' (l.map encI)) (hm : n ≤ 9223372036854775806) :
    Calls Try.prog 13 #[.slice A n cap, .slice A' n cap'] w fun e w' => e = .returned (.bool true) ∧ Below w.heap.size w w' := by
  have hn : l.length = n := by have := hs.len; simpa using this
  subst hn
  have HL := hide hs.sl
  have HL' := hide hs'.sl
  clear hs hs'
  go_enter Try.func13, Try.ntmps13
  go_wp2_with fail
  go_loopw [5] (fun i wr => ∃ k : Nat, k ≤ l.length ∧ i = .int .i64 k ∧ Below w.heap.size w wr) (fun i _ => l.length - (intOf i).toNat)
  case atStart => exact ⟨0, Nat.zero_le _, rfl, Below.refl _ _⟩
  case round =>
    obtain ⟨k, hk, rfl, hb⟩ := hrel
    by_cases hlt : k < l.length
    · obtain ⟨v, hx⟩ := get_of hlt
      obtain ⟨bb, off, rfl, hbl, hc⟩ := ((HL.out.below hb).more hb.size).i hx
      obtain ⟨bb', off', rfl, hbl', hd⟩ := ((HL'.out.below hb).more hb.size).i hx
      have hk0 : (0 : Int) ≤ (k : Int) := by omega
      have hk1 : (k : Int) < (l.length : Int) := by omega
      clear hx
      go_wp2_with fail
      go_quiet (fail)
      go_wp2_with fail
      go_roundw
      case rel => exact ⟨k + 1, by omega, by go_num, bel_drewN hb _⟩
      case measure => simp [intOf]; omega
    · obtain rfl : k = l.length := by omega
      go_wp2_with fail
      go_ret
      exact ⟨rfl, hb⟩

set_option maxRecDepth 100000 in
set_option maxHeartbeats 2000000 in
theorem diagR_any (f : Int) (A : Option Addr) (cap : Nat) (M : List Rw) (w : World) (hs : MV w A M.length cap M) (hf : ok64 f) :
    Calls Try.prog 15 #[.agg #[.int .i64 f, .slice A M.length cap]] w (DiagPost w (diagL f (allM M))) := by
  have HS := hide hs
  clear hs
  go_enter Try.func15, Try.ntmps15
  go_wp2_with fail
  refine (rightR_any f A cap M _ (HS.out.below ((Below.refl _ _).alloc (Nat.le_refl _) _)) hf).mono ?_
  rintro e w1 ⟨rfl, hb1⟩
  have k1 := kept hb1 (b := w.heap.size) (o := 1) (u := .slice A M.length cap) (by simp)
  have h1 : Below w.heap.size w w1 := chain1 hb1
  clear hb1
  cases hr : rightC f (allM M)
  · have HD := hide (show diagL f (allM M) = [] by rw [diagL, if_neg (by simp [hr])])
    go_wp2_with fail
    go_ret
    rw [HD.out]
    exact ⟨none, 0, rfl, ⟨Sl.nil_, rfl, Nat.le_refl _, by simp [maxLen], fun _ => rfl⟩, h1⟩
  have HD := hide (show diagL f (allM M) = (allM M).map lastI by rw [diagL, if_pos hr])
  have HRR := hide (fun (i : Nat) (l : List Int) (h : (allM M)[i]? = some l) => (right_row hr h).1)
  have hM20 : M.length ≤ 20 := by rw [rightC, Bool.and_eq_true, allM_len] at hr; have := hr.1; simp only [boundsB, decide_eq_true_eq] at this; omega
  have hw0 := block_lt_of_cell k1
  go_wp2_with fail
  go_loopw [3, 5] (fun t i wr => ∃ (k : Nat) (A' : Option Addr) (cap' : Nat), k ≤ M.length ∧ i = .int .i64 k ∧ t = .slice A' k cap' ∧ OwnS wr w1.heap.size 3 1 A' k cap' ((((allM M).take k).map lastI).map encI) ∧ Below w1.heap.size w1 wr) (fun _ i _ => M.length - (intOf i).toNat)
  case atStart => exact ⟨0, none, 0, Nat.zero_le _, rfl, rfl, OwnS.nil_ _ _ _ _, Below.refl _ _⟩
  case round =>
    obtain ⟨k, A', cap', hk, rfl, rfl, ho, hb⟩ := hrel
    have k2 := kept hb k1
    have h2 := chain h1 hb
    by_cases hlt : k < M.length
    · obtain ⟨⟨B, l, bc⟩, hx⟩ := get_of hlt
      have hbs := HS.out.below h2
      obtain ⟨bb, off, rfl, hbl, hc⟩ := hbs.sv.sl.rw hx
      have hrow := hbs.rows _ (List.mem_of_getElem? hx)
      have hlen := HRR.out k l (allM_get hx)
      rw [allM_len] at hlen
      simp only at hc hrow
      obtain ⟨q, hq⟩ : ∃ q : Nat, M.length - 1 - k = q := ⟨_, rfl⟩
      obtain ⟨v, hv⟩ := get_of (l := l) (k := q) (by omega)
      obtain ⟨b2, off2, rfl, hbl2, hcv⟩ := hrow.sl.i hv
      have hlv : lastI l = v := by rw [lastI, List.getLast?_eq_getElem?, show l.length - 1 = q by omega, hv]; rfl
      have hk0 : (0 : Int) ≤ (k : Int) := by omega
      have hk1 : (k : Int) < (M.length : Int) := by omega
      have hqi : (M.length : Int) - 1 - (k : Int) = (q : Int) := by omega
      have hql : (q : Int) < (l.length : Int) := by omega
      have hl2 : l.length ≤ 20 := by omega
      have hsz := hb.size
      have HT := hide (show ((allM M).take (k + 1)).map lastI = ((allM M).take k).map lastI ++ [v] by rw [take_of (allM_get hx), List.map_append]; simp [hlv])
      have HO := hide ho
      have HQ := hide hq
      clear hx ho hrow hlen hv hlv hbs hq
      go_wp2_with (at_builtin
                   refine wpList_app rfl (.tmp 17) (.tmp 29) 28 rfl elInt (B := w1.heap.size) (A2 := some ⟨_, 0, none⟩) (news := [v].map encI) rfl (HO.out.alloc _) rfl rfl ?_ (okI [v]) ?_ ?_ ?_ ?_
                   · exact sl_of_blk (cs := #[.int .i64 v]) (Blk.new _ _ _)
                   · simp only [maxLen]; omega
                   · omega
                   · simp; omega
                   intro A1 c1 wa ho1 hg1 ha1
                   have hba : Below w1.heap.size w1 wa := (hb.alloc hb.size _).grown hg1 (by simp; omega) (fun kk hk => (HO.out.lt kk hk).1)
                   clear hg1 ha1)
      go_roundw
      case rel => exact ⟨k + 1, A1, c1, by omega, by go_num, rfl, by rw [HT.out, List.map_append]; exact ho1, hba⟩
      case measure => simp [intOf]; omega
    · obtain rfl : k = M.length := by omega
      rw [List.take_of_length_le (by rw [allM_len]; exact Nat.le_refl _)] at ho
      have HO := hide ho
      clear ho
      go_wp2_with fail
      go_ret
      rw [HD.out]
      have hl : ((allM M).map lastI).length = M.length := by rw [List.length_map, allM_len]
      exact ⟨A', cap', by rw [hl]; rfl, by rw [hl]; exact HO.out.sv, h2⟩
end Go.Proofs.Ytclcjonogjinfaa
