/- Two triangles that are one; a row with more in it, the document's. -/
import Derived.Test.YtclcjonogjinfaaTriE
import Derived.Test.YtclcjonogjinfaaTriC
namespace Go.Proofs.Ytclcjonogjinfaa
open Go.RowKit

theorem allM_row {M M' : List Rw} (h : allM M = allM M') {i : Nat} {r : Rw} (hr : M[i]? = some r) : ∃ r', M'[i]? = some r' ∧ r'.l = r.l := by
  have h1 := allM_get hr
  rw [h, allM, List.getElem?_map] at h1
  obtain ⟨r', hr', he⟩ := Option.map_eq_some_iff.1 h1
  exact ⟨r', hr', he⟩

set_option maxRecDepth 100000 in
set_option maxHeartbeats 2000000 in
theorem sameT_any (f : Int) (A A' : Option Addr) (n cap cap' : Nat) (M M' : List Rw) (w : World) (hs : MV w A n cap M) (hs' : MV w A' n cap' M') (he : allM M = allM M') (hm : n ≤ 1000) :
    Calls Try.prog 19 #[.agg #[.int .i64 f, .slice A n cap], .agg #[.int .i64 f, .slice A' n cap']] w fun e w' => e = .returned (.bool true) ∧ Below w.heap.size w w' := by
  have hn := hs.len
  subst hn
  have HS := hide hs
  have HS' := hide hs'
  have HE := hide he
  clear hs hs' he
  go_enter Try.func19, Try.ntmps19
  go_wp2_with fail
  obtain ⟨w1, hw1⟩ : ∃ W, (w.alloc (.cells #[.int .i64 f, .slice A M.length cap] 24)).alloc (.cells #[.int .i64 f, .slice A' M.length cap'] 24) = W := ⟨_, rfl⟩
  have k1 : w1.cell? ⟨w.heap.size, 1, none⟩ = some (.slice A M.length cap) := by rw [← hw1]; simp
  have k2 : w1.cell? ⟨w.heap.size + 1, 1, none⟩ = some (.slice A' M.length cap') := by rw [← hw1]; simp
  have h1 : Below w.heap.size w w1 := by rw [← hw1]; exact ((Below.refl _ _).alloc (Nat.le_refl _) _).alloc (by simp) _
  rw [hw1]
  clear hw1
  go_loopw [5] (fun i wr => ∃ k : Nat, k ≤ M.length ∧ i = .int .i64 k ∧ Below w1.heap.size w1 wr) (fun i _ => M.length - (intOf i).toNat)
  case atStart => exact ⟨0, Nat.zero_le _, rfl, Below.refl _ _⟩
  case round =>
    obtain ⟨k, hk, rfl, hb⟩ := hrel
    have q1 := kept hb k1
    have q2 := kept hb k2
    have hbw := chain h1 hb
    by_cases hlt : k < M.length
    · obtain ⟨⟨B, l, bc⟩, hx⟩ := get_of hlt
      obtain ⟨⟨B', l', bc'⟩, hx', hl'⟩ := allM_row HE.out hx
      simp only at hl'
      subst hl'
      have g1 := HS.out.below hbw
      have g2 := HS'.out.below hbw
      obtain ⟨bb, off, rfl, hbl, hc⟩ := g1.sv.sl.rw hx
      obtain ⟨bb', off', rfl, hbl', hc'⟩ := g2.sv.sl.rw hx'
      have hr := g1.rows _ (List.mem_of_getElem? hx)
      have hr' := g2.rows _ (List.mem_of_getElem? hx')
      simp only at hc hc' hr hr'
      have hle := hr.le
      have hmo := hr.most
      have HR := hide hr
      have HR' := hide hr'
      unfold maxLen at hmo
      have hk0 : (0 : Int) ≤ (k : Int) := by omega
      have hk1 : (k : Int) < (M.length : Int) := by omega
      clear hx hx' g1 g2 hr hr'
      go_wp2_with fail
      go_quiet (fail)
      go_wp2_with fail
      have q1 : (wr.drewN nq).cell? ⟨w.heap.size, 1, none⟩ = some (.slice (some ⟨bb, off, none⟩) M.length cap) := q1
      have q2 : (wr.drewN nq).cell? ⟨w.heap.size + 1, 1, none⟩ = some (.slice (some ⟨bb', off', none⟩) M.length cap') := q2
      have hc : (wr.drewN nq).cell? ⟨bb, off + k, none⟩ = some (.slice B l'.length bc) := hc
      have hc' : (wr.drewN nq).cell? ⟨bb', off' + k, none⟩ = some (.slice B' l'.length bc') := hc'
      have hb := bel_drewN hb nq
      have hr := HR.out.below (bel_drewN (Below.refl _ _) nq)
      have hr' := HR'.out.below (bel_drewN (Below.refl _ _) nq)
      obtain ⟨wo, hwo⟩ : ∃ W, wr.drewN nq = W := ⟨_, rfl⟩
      rw [hwo] at q1 q2 hc hc' hb hr hr' ⊢
      clear hwo HR HR'
      have HR := hide hr
      have HR' := hide hr'
      clear hr hr'
      go_loopw [6] (fun i wr => ∃ q : Nat, q ≤ l'.length ∧ i = .int .i64 q ∧ Below wo.heap.size wo wr) (fun i _ => l'.length - (intOf i).toNat)
      case atStart => exact ⟨0, Nat.zero_le _, rfl, Below.refl _ _⟩
      case round =>
        obtain ⟨q, hq, rfl, hb2⟩ := hrel
        have p1 := kept hb2 q1
        have p2 := kept hb2 q2
        have p3 := kept hb2 hc
        have p4 := kept hb2 hc'
        have hbb := chain hb hb2
        by_cases hql : q < l'.length
        · obtain ⟨v, hv⟩ := get_of hql
          obtain ⟨b2, off2, rfl, hbl2, hcv⟩ := (HR.out.below hb2).sl.i hv
          obtain ⟨b3, off3, rfl, hbl3, hcv'⟩ := (HR'.out.below hb2).sl.i hv
          have hq0 : (0 : Int) ≤ (q : Int) := by omega
          have hq1 : (q : Int) < (l'.length : Int) := by omega
          clear hv
          go_wp2_with fail
          go_quiet (fail)
          go_wp2_with fail
          go_roundw
          case rel => exact ⟨q + 1, by omega, by go_num, bel_drewN hb2 _⟩
          case measure => simp [intOf]; omega
        · obtain rfl : q = l'.length := by omega
          go_wp2_with fail
          go_roundw
          case rel => exact ⟨k + 1, by omega, by go_num, hbb⟩
          case measure => simp [intOf]; omega
    · obtain rfl : k = M.length := by omega
      go_wp2_with fail
      go_ret
      exact ⟨rfl, hbw⟩
end Go.Proofs.Ytclcjonogjinfaa
