/- Part 44 of the proof. -/
import Derived.Test.YtmfohnchnbgbaaaGreatKnM11
import Derived.Test.YtmfohnchnbgbaaaGreatKnM24
import Derived.Test.YtmfohnchnbgbaaaGreatKnM43
/- The document's comparison of slices: those that hold the same are one. -/
namespace Go.Proofs.YtmfohnchnbgbaaaGreat
open Go.RowKit Go.Lib

set_option maxRecDepth 100000 in
set_option maxHeartbeats 2000000 in
theorem same10_any (A A2 : Option Addr) (n cap cap2 : Nat) (l : List Cv) (w : World) (hs : SV w 5 A n cap (l.map encCv)) (hs2 : SV w 5 A2 n cap2 (l.map encCv)) :
    Calls Tryz.prog 155 #[.slice A n cap, .slice A2 n cap2] w fun e w' => e = .returned (.bool true) ∧ Below w.heap.size w w' := by
  have hn : l.length = n := by have := hs.len; simpa using this
  have hle := hs.le
  have hmo := hs.most
  unfold maxLen at hmo
  have hn64 : (n : Int) ≤ 9223372036854775807 := by omega
  have HN := hide hn
  have HS := hide hs
  have HS2 := hide hs2
  clear hn hs hs2 hle hmo
  have hbn : ((n : Int) != (n : Int)) = false := by simp
  go_enter Tryz.func155, Tryz.ntmps155
  go_wp2_with fail
  go_loopw [5] (fun i wr => ∃ k : Nat, k ≤ n ∧ i = .int .i64 k ∧ Below w.heap.size w wr) (fun i _ => n - (RowKit.intOf i).toNat)
  case atStart => exact ⟨0, Nat.zero_le _, rfl, Below.refl _ _⟩
  case round =>
    obtain ⟨k, hk, rfl, hb⟩ := hrel
    have HB := hide hb
    by_cases hlt : k < n
    · obtain ⟨c, hx⟩ := get_of (l := l) (k := k) (by rw [HN.out]; exact hlt)
      obtain ⟨b, off, rfl, hbl, c0, c1, c2, c3, c4⟩ := (HS.out.below hb).sl.cv hx
      obtain ⟨b', off', rfl, hbl', d0, d1, d2, d3, d4⟩ := (HS2.out.below hb).sl.cv hx
      have hk0 : (0 : Int) ≤ (k : Int) := by omega
      have hk1 : (k : Int) < (n : Int) := by omega
      have hnq : ∀ w, (binOp .neq 23 (.agg #[.int .i64 c.p, .int .i64 c.lim, .int .i64 c.agg, .int .i64 c.ded, .int .i64 c.sh]) (.agg #[.int .i64 c.p, .int .i64 c.lim, .int .i64 c.agg, .int .i64 c.ded, .int .i64 c.sh])).run Tryz.prog w = .ok (.bool false) w := fun w => by rw [neq_cov]; simp
      clear hx hb
      go_wp2_with fail
      refine wp_region_class (fun W => Below wr.heap.size wr W) (by kernel_rfl) (by kernel_rfl) (Below.refl _ _).drew ?_
      repeat (first
        | go_big_quiet_skip
        | (go_big_quiet_want
           first
             | (go_big_quiet_op
                go_big_quiet_on)
             | (refine quiet_yield (v := ?_) ?_ ?_
                rotate_left
                · intro W hW
                  have c0 := kept hW c0
                  have c1 := kept hW c1
                  have c2 := kept hW c2
                  have c3 := kept hW c3
                  have c4 := kept hW c4
                  have d0 := kept hW d0
                  have d1 := kept hW d1
                  have d2 := kept hW d2
                  have d3 := kept hW d3
                  have d4 := kept hW d4
                  clear hW
                  go_simp
                  try with_reducible rfl
                simp only [Act.put, List.setIfInBounds_toArray, List.set_cons_zero, List.set_cons_succ]
                go_big_quiet_on)))
      refine wpQuiet_nil ?_
      intro W hW
      have HW := hide (chain HB.out hW)
      clear hW c0 c1 c2 c3 c4 d0 d1 d2 d3 d4 hnq
      go_wp2_with fail
      go_roundw
      case rel => exact ⟨k + 1, by omega, by go_num, HW.out⟩
      case measure => simp [RowKit.intOf]; omega
    · obtain rfl : k = n := by omega
      clear hb
      go_wp2_with fail
      go_ret
      exact ⟨rfl, HB.out⟩
theorem eq_risk (a b c d : Int) (w : World) : (binOp .eql 59 (.agg #[.int .i64 a, .int .i64 b, .int .i64 c, .int .i64 d]) (.agg #[.int .i64 a, .int .i64 b, .int .i64 c, .int .i64 d])).run Tryz.prog w = .ok (.bool true) w := by rw [eql_risk]; simp
theorem eq_span (a b : Int) (w : World) : (binOp .eql 57 (.agg #[.int .i64 a, .int .i64 b]) (.agg #[.int .i64 a, .int .i64 b])).run Tryz.prog w = .ok (.bool true) w := by simp [go_sem]
/-- The same slice, its covers elsewhere. -/
def atC (s : Sc) (A : Option Addr) (cap : Nat) : Sc := { s with A := A, cap := cap }

set_option maxRecDepth 100000 in
set_option maxHeartbeats 2000000 in
theorem like_any (s : Sc) (A2 : Option Addr) (cap2 : Nat) (w : World) (hs : SV w 5 s.A s.l.length s.cap (s.l.map encCv)) (hs2 : SV w 5 A2 s.l.length cap2 (s.l.map encCv)) :
    Calls Tryz.prog 90 #[.agg #[.int .i64 s.f, .int .i64 s.t, .bool s.on, .int .i64 s.rk, .int .i64 s.rv, .int .i64 s.ra, .int .i64 s.rz, .slice s.A s.l.length s.cap, .int .i64 s.y], .agg #[.int .i64 s.f, .int .i64 s.t, .bool s.on, .int .i64 s.rk, .int .i64 s.rv, .int .i64 s.ra, .int .i64 s.rz, .slice A2 s.l.length cap2, .int .i64 s.y]] w fun e w' => e = .returned (.bool true) ∧ Below w.heap.size w w' := by
  obtain ⟨w1, hw1⟩ : ∃ W, (w.alloc (.cells (scC s) 87)).alloc (.cells (scC (atC s A2 cap2)) 87) = W := ⟨_, rfl⟩
  have hB : Blk w1 w.heap.size 87 (scC s) := by rw [← hw1]; exact (Blk.new _ _ _).alloc _
  have hC : Blk w1 (w.heap.size + 1) 87 (scC (atC s A2 cap2)) := by rw [← hw1]; exact Blk.new' (by simp)
  have hb1 : Below w.heap.size w w1 := by rw [← hw1]; exact ((Below.refl _ _).alloc (Nat.le_refl _) _).alloc (by simp) _
  obtain ⟨z0, z1, z2, z3, z4, z5, z6, z7, z8⟩ := sc_cells hB
  obtain ⟨y0, y1, y2, y3, y4, y5, y6, y7, y8⟩ := sc_cells hC
  simp only [atC] at y0 y1 y2 y3 y4 y5 y6 y7 y8
  have hq := same10_any s.A A2 s.l.length s.cap cap2 s.l w1 (hs.below hb1) (hs2.below hb1)
  have HQ := hide hq
  have H1 := hide hb1
  have HW := hide hw1
  have hrk := eq_risk s.rk s.rv s.ra s.rz
  obtain ⟨n, hn⟩ : ∃ n, s.l.length = n := ⟨_, rfl⟩
  have HN := hide hn
  clear hB hC hb1 hw1 hq hs hs2 hn
  go_enter Tryz.func90, Tryz.ntmps90
  go_upto_region 1 with fail
  change Code.wp _ _ _ _ ((w.alloc (.cells (scC s) 87)).alloc (.cells (scC (atC s A2 cap2)) 87))
  rw [HW.out]
  clear HW
  go_wp2_with fail
  refine HQ.out.mono ?_
  rintro e w2 ⟨rfl, h2⟩
  have x2 := kept h2 z2
  have x3 := kept h2 z3
  have x4 := kept h2 z4
  have x5 := kept h2 z5
  have x6 := kept h2 z6
  have v2 := kept h2 y2
  have v3 := kept h2 y3
  have v4 := kept h2 y4
  have v5 := kept h2 y5
  have v6 := kept h2 y6
  have H2 := hide (chain H1.out h2)
  clear h2 z0 z1 z2 z3 z4 z5 z6 z7 z8 y0 y1 y2 y3 y4 y5 y6 y7 y8 HQ
  obtain ⟨o, ho⟩ : ∃ o, s.on = o := ⟨_, rfl⟩
  rw [ho] at x2 v2
  clear ho
  cases o
  all_goals
    go_wp2_with fail
    go_ret
    exact ⟨rfl, H2.out⟩

set_option maxRecDepth 100000 in
set_option maxHeartbeats 2000000 in
theorem same12_any (s : Sc) (A2 : Option Addr) (cap2 : Nat) (w : World) (hs : SV w 5 s.A s.l.length s.cap (s.l.map encCv)) (hs2 : SV w 5 A2 s.l.length cap2 (s.l.map encCv)) :
    Calls Tryz.prog 49 #[.agg #[.int .i64 s.f, .int .i64 s.t, .bool s.on, .int .i64 s.rk, .int .i64 s.rv, .int .i64 s.ra, .int .i64 s.rz, .slice s.A s.l.length s.cap, .int .i64 s.y], .agg #[.int .i64 s.f, .int .i64 s.t, .bool s.on, .int .i64 s.rk, .int .i64 s.rv, .int .i64 s.ra, .int .i64 s.rz, .slice A2 s.l.length cap2, .int .i64 s.y]] w fun e w' => e = .returned (.bool true) ∧ Below w.heap.size w w' := by
  obtain ⟨w1, hw1⟩ : ∃ W, (w.alloc (.cells (scC s) 87)).alloc (.cells (scC (atC s A2 cap2)) 87) = W := ⟨_, rfl⟩
  have hB : Blk w1 w.heap.size 87 (scC s) := by rw [← hw1]; exact (Blk.new _ _ _).alloc _
  have hC : Blk w1 (w.heap.size + 1) 87 (scC (atC s A2 cap2)) := by rw [← hw1]; exact Blk.new' (by simp)
  have hb1 : Below w.heap.size w w1 := by rw [← hw1]; exact ((Below.refl _ _).alloc (Nat.le_refl _) _).alloc (by simp) _
  obtain ⟨z0, z1, z2, z3, z4, z5, z6, z7, z8⟩ := sc_cells hB
  obtain ⟨y0, y1, y2, y3, y4, y5, y6, y7, y8⟩ := sc_cells hC
  simp only [atC] at y0 y1 y2 y3 y4 y5 y6 y7 y8
  have hq := like_any s A2 cap2 w1 (hs.below hb1) (hs2.below hb1)
  have HQ := hide hq
  have H1 := hide hb1
  have HW := hide hw1
  have hsp := eq_span s.f s.t
  clear hB hC hb1 hw1 hq hs hs2
  go_enter Tryz.func49, Tryz.ntmps49
  go_upto_region 1 with fail
  change Code.wp _ _ _ _ ((w.alloc (.cells (scC s) 87)).alloc (.cells (scC (atC s A2 cap2)) 87))
  rw [HW.out]
  clear HW
  go_wp2_with fail
  refine HQ.out.mono ?_
  rintro e w2 ⟨rfl, h2⟩
  have H2 := hide (chain H1.out h2)
  clear h2 z0 z1 z2 z3 z4 z5 z6 z7 z8 y0 y1 y2 y3 y4 y5 y6 y7 y8 HQ
  go_wp2_with fail
  go_ret
  exact ⟨rfl, H2.out⟩
theorem v_at {s s2 : Sc} (h : s2.v = s.v) : s2 = atC s s2.A s2.cap := by
  obtain ⟨f, t, on, rk, rv, ra, rz, A, l, cap, y⟩ := s
  obtain ⟨f2, t2, on2, rk2, rv2, ra2, rz2, A2, l2, cap2, y2⟩ := s2
  simp only [Sc.v, Sp.mk.injEq] at h
  obtain ⟨rfl, rfl, rfl, rfl, rfl, rfl, rfl, rfl, rfl⟩ := h
  rfl

set_option maxRecDepth 100000 in
set_option maxHeartbeats 2000000 in
theorem all12_any (A A2 : Option Addr) (n cap cap2 : Nat) (l l2 : List Sc) (w : World) (hs : SV w 9 A n cap (l.map encSc)) (hs2 : SV w 9 A2 n cap2 (l2.map encSc)) (hv : l2.map Sc.v = l.map Sc.v)
    (hc : ∀ s ∈ l, SV w 5 s.A s.l.length s.cap (s.l.map encCv)) (hc2 : ∀ s ∈ l2, SV w 5 s.A s.l.length s.cap (s.l.map encCv)) :
    Calls Tryz.prog 21 #[.slice A n cap, .slice A2 n cap2] w fun e w' => e = .returned (.bool true) ∧ Below w.heap.size w w' := by
  have hn : l.length = n := by have := hs.len; simpa using this
  have hn2 : l2.length = n := by have := hs2.len; simpa using this
  have hle := hs.le
  have hmo := hs.most
  unfold maxLen at hmo
  have hn64 : (n : Int) ≤ 9223372036854775807 := by omega
  have HN := hide hn
  have HN2 := hide hn2
  have HS := hide hs
  have HS2 := hide hs2
  have HC := hide hc
  have HC2 := hide hc2
  have HV := hide hv
  clear hn hn2 hs hs2 hle hmo hc hc2 hv
  have hbn : ((n : Int) != (n : Int)) = false := by simp
  go_enter Tryz.func21, Tryz.ntmps21
  go_wp2_with fail
  go_loopw [5] (fun i wr => ∃ k : Nat, k ≤ n ∧ i = .int .i64 k ∧ Below w.heap.size w wr) (fun i _ => n - (RowKit.intOf i).toNat)
  case atStart => exact ⟨0, Nat.zero_le _, rfl, Below.refl _ _⟩
  case round =>
    obtain ⟨k, hk, rfl, hb⟩ := hrel
    have HB := hide hb
    by_cases hlt : k < n
    · obtain ⟨s, hx⟩ := get_of (l := l) (k := k) (by rw [HN.out]; exact hlt)
      obtain ⟨s2, hy⟩ := get_of (l := l2) (k := k) (by rw [HN2.out]; exact hlt)
      have hvv : s2.v = s.v := by
        have h1 : (l2.map Sc.v)[k]? = some s2.v := by simp [hy]
        rw [HV.out, List.getElem?_map, hx] at h1
        exact (Option.some.inj h1).symm
      have hse := v_at hvv
      obtain ⟨A3, hA3⟩ : ∃ X, s2.A = X := ⟨_, rfl⟩
      obtain ⟨cap3, hcap3⟩ : ∃ X, s2.cap = X := ⟨_, rfl⟩
      rw [hA3, hcap3] at hse
      subst hse
      obtain ⟨b, off, rfl, hbl, c0, c1, c2, c3, c4, c5, c6, c7, c8⟩ := (HS.out.below hb).sl.sc hx
      obtain ⟨b', off', rfl, hbl', d0, d1, d2, d3, d4, d5, d6, d7, d8⟩ := (HS2.out.below hb).sl.sc hy
      simp only [atC] at d0 d1 d2 d3 d4 d5 d6 d7 d8
      have hk0 : (0 : Int) ≤ (k : Int) := by omega
      have hk1 : (k : Int) < (n : Int) := by omega
      have hq1 := (HC.out s (List.mem_of_getElem? hx)).below hb
      have hq2 := (HC2.out _ (List.mem_of_getElem? hy)).below hb
      simp only [atC] at hq2
      have HQ := hide (fun (W : World) (hW : Below wr.heap.size wr W) => (same12_any s A3 cap3 W (hq1.below hW) (hq2.below hW)).mono fun e w'' h => (⟨h.1, chain hW h.2⟩ : e = .returned (.bool true) ∧ Below wr.heap.size wr w''))
      clear hx hy hb hvv hA3 hcap3 hq1 hq2
      go_wp2_with fail
      refine wp_region_class (fun W => Below wr.heap.size wr W) (by kernel_rfl) (by kernel_rfl) (Below.refl _ _).drew ?_
      repeat (first
        | go_big_quiet_skip
        | (go_big_quiet_want
           first
             | (go_big_quiet_op
                go_big_quiet_on)
             | (refine quiet_call (v := .bool true) (f := 49) (args := #[.agg #[.int .i64 s.f, .int .i64 s.t, .bool s.on, .int .i64 s.rk, .int .i64 s.rv, .int .i64 s.ra, .int .i64 s.rz, .slice s.A s.l.length s.cap, .int .i64 s.y], .agg #[.int .i64 s.f, .int .i64 s.t, .bool s.on, .int .i64 s.rk, .int .i64 s.rv, .int .i64 s.ra, .int .i64 s.rz, .slice A3 s.l.length cap3, .int .i64 s.y]]) ?_ ?_ ?_
                · intro W hW
                  have c0 := kept hW c0
                  have c1 := kept hW c1
                  have c2 := kept hW c2
                  have c3 := kept hW c3
                  have c4 := kept hW c4
                  have c5 := kept hW c5
                  have c6 := kept hW c6
                  have c7 := kept hW c7
                  have c8 := kept hW c8
                  have d0 := kept hW d0
                  have d1 := kept hW d1
                  have d2 := kept hW d2
                  have d3 := kept hW d3
                  have d4 := kept hW d4
                  have d5 := kept hW d5
                  have d6 := kept hW d6
                  have d7 := kept hW d7
                  have d8 := kept hW d8
                  clear hW
                  go_simp
                  done
                · intro W hW
                  exact HQ.out W hW
                simp only [Act.put, List.setIfInBounds_toArray, List.set_cons_zero, List.set_cons_succ]
                go_big_quiet_on)
             | (refine quiet_yield (v := ?_) ?_ ?_
                rotate_left
                · intro W hW
                  have c0 := kept hW c0
                  have c1 := kept hW c1
                  have c2 := kept hW c2
                  have c3 := kept hW c3
                  have c4 := kept hW c4
                  have c5 := kept hW c5
                  have c6 := kept hW c6
                  have c7 := kept hW c7
                  have c8 := kept hW c8
                  have d0 := kept hW d0
                  have d1 := kept hW d1
                  have d2 := kept hW d2
                  have d3 := kept hW d3
                  have d4 := kept hW d4
                  have d5 := kept hW d5
                  have d6 := kept hW d6
                  have d7 := kept hW d7
                  have d8 := kept hW d8
                  clear hW
                  go_simp
                  try with_reducible rfl
                simp only [Act.put, List.setIfInBounds_toArray, List.set_cons_zero, List.set_cons_succ]
                go_big_quiet_on)))
      refine wpQuiet_nil ?_
      intro W hW
      have HW := hide (chain HB.out hW)
      clear hW c0 c1 c2 c3 c4 c5 c6 c7 c8 d0 d1 d2 d3 d4 d5 d6 d7 d8 HQ
      go_wp2_with fail
      go_roundw
      case rel => exact ⟨k + 1, by omega, by go_num, HW.out⟩
      case measure => simp [RowKit.intOf]; omega
    · obtain rfl : k = n := by omega
      clear hb
      go_wp2_with fail
      go_ret
      exact ⟨rfl, HB.out⟩
end Go.Proofs.YtmfohnchnbgbaaaGreat

/- Few, and what few histories and tariffs are. -/
namespace Go.Proofs.YtmfohnchnbgbaaaGreat
open Go.RowKit Go.Lib

def Few2 (x : Vw) : Prop := x.age.length ≤ 200 ∧ x.zone.length ≤ 200 ∧ x.peril.length ≤ 200
def FewP (h : Hi) (M : List Vw) (w : World) (e : Ending) (w' : World) : Prop :=
  ∃ b : Bool, e = .returned (.bool b) ∧ (b = true → h.cs.length ≤ 60 ∧ ∀ x ∈ M, Few2 x) ∧ Below w.heap.size w w'
theorem FewP.no {h : Hi} {M : List Vw} {w w' : World} (hb : Below w.heap.size w w') : FewP h M w (.returned (.bool false)) w' := ⟨false, rfl, (fun h => nomatch h), hb⟩

set_option maxRecDepth 100000 in
set_option maxHeartbeats 4000000 in
theorem few_any (h : Hi) (A : Option Addr) (cap : Nat) (M : List Vw) (w : World) (hv : HV w h) (hT : TV w A M.length cap M) :
    Calls Tryz.prog 41 #[.agg #[.int .i64 h.id, .int .i64 h.bk, .int .i64 h.tm.f, .int .i64 h.tm.t, .int .i64 h.tm.k, .int .i64 h.tm.v, .int .i64 h.tm.a, .int .i64 h.tm.z, .slice h.tm.A h.tm.l.length h.tm.cap, .slice h.A h.cs.length h.cap], .agg #[.slice A M.length cap]] w (FewP h M w) := by
  obtain ⟨w1, hw1⟩ : ∃ W, (w.alloc (.cells (hiC h) 65)).alloc (.cells #[.slice A M.length cap] 68) = W := ⟨_, rfl⟩
  have hB : Blk w1 w.heap.size 65 (hiC h) := by rw [← hw1]; exact (Blk.new _ _ _).alloc _
  have hS : Blk w1 (w.heap.size + 1) 68 #[.slice A M.length cap] := by rw [← hw1]; exact Blk.new' (by simp)
  have hb1 : Below w.heap.size w w1 := by rw [← hw1]; exact ((Below.refl _ _).alloc (Nat.le_refl _) _).alloc (by simp) _
  obtain ⟨z0, z1, z2, z3, z4, z5, z6, z7, z8, z9⟩ := hi_cells hB
  have s0 := hS.cell 0
  simp at s0
  have H1 := hide hb1
  have HW := hide hw1
  have HV := hide (hv.below hb1)
  have HT := hide (hT.below hb1)
  have hlec := hv.cs.le
  have hlem := hT.sv.le
  have hmoc := hv.cs.most
  have hmom := hT.sv.most
  unfold maxLen at hmoc hmom
  clear hB hS hb1 hw1 hv hT
  obtain ⟨n, hn⟩ : ∃ n, h.cs.length = n := ⟨_, rfl⟩
  obtain ⟨m, hm⟩ : ∃ m, M.length = m := ⟨_, rfl⟩
  obtain ⟨k, hk⟩ : ∃ k, h.tm.l.length = k := ⟨_, rfl⟩
  have HN := hide hn
  have HM := hide hm
  have HL := hide hk
  rw [hn] at hlec
  rw [hm] at hlem HT
  clear hn hm hk
  go_enter Tryz.func41, Tryz.ntmps41
  go_upto_region 1 with fail
  change Code.wp _ _ _ _ ((w.alloc (.cells (hiC h) 65)).alloc (.cells #[.slice A M.length cap] 68))
  rw [HW.out]
  clear HW
  rw [show h.cs.length = n from HN.out] at z9
  rw [show M.length = m from HM.out] at s0
  rw [show h.tm.l.length = k from HL.out] at z8
  clear hmoc hmom
  by_cases a1 : (60 : Int) < (n : Int)
  · go_wp2_with fail
    go_ret
    exact FewP.no H1.out
  by_cases a2 : (100 : Int) < (m : Int)
  · go_wp2_with fail
    go_ret
    exact FewP.no H1.out
  by_cases a3 : (50 : Int) < (k : Int)
  · go_wp2_with fail
    go_ret
    exact FewP.no H1.out
  go_wp2_with fail
  go_loopw [5] (fun q wr => ∃ i : Nat, i ≤ n ∧ q = .int .i64 i ∧ wr = w1) (fun q _ => n - (RowKit.intOf q).toNat)
  case atStart => exact ⟨0, Nat.zero_le _, rfl, rfl⟩
  case round =>
    obtain ⟨i, hi, rfl, hwe⟩ := hrel
    obtain rfl := hwe.symm
    clear hwe
    by_cases hlt : i < n
    · obtain ⟨c, hc⟩ := get_of (l := h.cs) (k := i) (by rw [HN.out]; exact hlt)
      obtain ⟨b, off, hA, hbl, c0, c1, c2, c3, c4, c5, c6, c7, c8⟩ := HV.out.cs.sl.ch hc
      rw [hA] at z9
      have hk0 : (0 : Int) ≤ (i : Int) := by omega
      have hk1 : (i : Int) < (n : Int) := by omega
      clear hc hA
      by_cases a4 : (50 : Int) < (c.l.length : Int)
      · go_wp2_with fail
        go_ret
        exact FewP.no H1.out
      · go_wp2_with fail
        go_roundw
        case rel => exact ⟨i + 1, by omega, by go_num, trivial⟩
        case measure => simp [RowKit.intOf]; omega
    · obtain rfl : i = n := by omega
      have HI := hide hi
      clear hi hlt
      go_wp2_with fail
      go_loopw [6] (fun q W => ∃ j : Nat, j ≤ m ∧ q = .int .i64 j ∧ (∀ x ∈ M.take j, Few2 x) ∧ Below w1.heap.size w1 W) (fun q _ => m - (RowKit.intOf q).toNat)
      case atStart => exact ⟨0, Nat.zero_le _, rfl, fun x hx => by simp at hx, Below.refl _ _⟩
      case round =>
        obtain ⟨j, hj, rfl, hf, hb⟩ := hrel
        have y0 := kept hb s0
        have HF := hide hf
        have HB := hide (chain H1.out hb)
        have HTW := hide (HT.out.below hb)
        have HBB := hide hb
        clear hf hb z0 z1 z2 z3 z4 z5 z6 z7 z8 z9 s0
        by_cases hlt : j < m
        · obtain ⟨x, hx⟩ := get_of (l := M) (k := j) (by rw [HM.out]; exact hlt)
          obtain ⟨b, off, hA, hbl, x0, x1, x2, x3, x4, x5, x6, x7, x8⟩ := HTW.out.sv.sl.vw hx
          rw [hA] at y0
          have hk0 : (0 : Int) ≤ (j : Int) := by omega
          have hk1 : (j : Int) < (m : Int) := by omega
          have HX := hide hx
          clear hx hA
          obtain ⟨w6, hw6⟩ : ∃ W6, wr.alloc (.cells (boxV x) 83) = W6 := ⟨_, rfl⟩
          have hb6 : Below wr.heap.size wr w6 := by rw [← hw6]; exact (Below.refl _ _).alloc (Nat.le_refl _) _
          have hS6 : Blk w6 wr.heap.size 83 (boxV x) := by rw [← hw6]; exact Blk.new _ _ _
          have HW6 := hide hw6
          have HB6 := hide (chain HB.out hb6)
          have HBB6 := hide (chain HBB.out hb6)
          clear hw6
          go_upto_region 12 with fail
          change Code.wp _ _ _ _ (wr.alloc (.cells (boxV x) 83))
          rw [HW6.out]
          clear x0 x1 x2 x3 x4 x5 x6 x7 x8 HW6 hb6
          obtain ⟨X, hXX⟩ : ∃ X, wr.heap.size = X := ⟨_, rfl⟩
          rw [hXX] at hS6 ⊢
          obtain ⟨x0, x1, x2, x3, x4, x5, x6, x7, x8⟩ := blk_cells hS6
          clear hS6 hXX
          by_cases a5 : (200 : Int) < (x.age.length : Int)
          · go_wp2_with fail
            go_ret
            exact FewP.no HB6.out
          by_cases a6 : (200 : Int) < (x.zone.length : Int)
          · go_wp2_with fail
            go_ret
            exact FewP.no HB6.out
          by_cases a7 : (200 : Int) < (x.peril.length : Int)
          · go_wp2_with fail
            go_ret
            exact FewP.no HB6.out
          have HX2 := hide (show Few2 x from ⟨by omega, by omega, by omega⟩)
          go_wp2_with fail
          go_roundw
          case rel =>
            refine ⟨j + 1, by omega, by go_num, ?_, HBB6.out⟩
            rw [take_of HX.out]
            intro z hz
            rcases List.mem_append.1 hz with h1 | h1
            · exact HF.out z h1
            · rw [List.mem_singleton] at h1; subst h1; exact HX2.out
          case measure => simp [RowKit.intOf]; omega
        · obtain rfl : j = m := by omega
          have HK := hide (show ∀ x ∈ M, Few2 x by have := HF.out; rwa [List.take_of_length_le (by rw [HM.out]; exact Nat.le_refl _)] at this)
          go_wp2_with fail
          go_ret
          exact ⟨true, rfl, fun _ => ⟨by rw [HN.out]; omega, HK.out⟩, HB.out⟩

set_option maxRecDepth 100000 in
set_option maxHeartbeats 4000000 in
theorem pfew_any (h : Hi) (A : Option Addr) (cap : Nat) (M : List Vw) (c : Ch) (w : World) (hv : HV w h) (hT : TV w A M.length cap M) :
    Calls Tryz.prog 17 #[.agg #[.int .i64 h.id, .int .i64 h.bk, .int .i64 h.tm.f, .int .i64 h.tm.t, .int .i64 h.tm.k, .int .i64 h.tm.v, .int .i64 h.tm.a, .int .i64 h.tm.z, .slice h.tm.A h.tm.l.length h.tm.cap, .slice h.A h.cs.length h.cap], .agg #[.slice A M.length cap], .agg (chC c)] w (FewP h M w) := by
  obtain ⟨w1, hw1⟩ : ∃ W, ((w.alloc (.cells (hiC h) 65)).alloc (.cells #[.slice A M.length cap] 68)).alloc (.cells (chC c) 71) = W := ⟨_, rfl⟩
  have hB : Blk w1 w.heap.size 65 (hiC h) := by rw [← hw1]; exact ((Blk.new _ _ _).alloc _).alloc _
  have hS : Blk w1 (w.heap.size + 1) 68 #[.slice A M.length cap] := by rw [← hw1]; exact (Blk.new' (by simp)).alloc _
  have hC : Blk w1 (w.heap.size + 1 + 1) 71 (chC c) := by rw [← hw1]; exact Blk.new' (by simp)
  have hb1 : Below w.heap.size w w1 := by rw [← hw1]; exact (((Below.refl _ _).alloc (Nat.le_refl _) _).alloc (by simp) _).alloc (by simp; omega) _
  obtain ⟨z0, z1, z2, z3, z4, z5, z6, z7, z8, z9⟩ := hi_cells hB
  have s0 := hS.cell 0
  simp at s0
  have lt0 := hB.lt
  have lt1 := hS.lt
  have lt2 := hC.lt
  have H1 := hide hb1
  have HW := hide hw1
  have HC := hide hC
  have HF := hide (few_any h A cap M w1 (hv.below hb1) (hT.below hb1))
  clear hB hS hC hb1 hw1 hv hT
  go_enter Tryz.func17, Tryz.ntmps17
  go_upto_region 1 with fail
  change Code.wp _ _ _ _ (((w.alloc (.cells (hiC h) 65)).alloc (.cells #[.slice A M.length cap] 68)).alloc (.cells (chC c) 71))
  rw [HW.out]
  clear HW
  go_wp2_with fail
  refine HF.out.mono ?_
  rintro e w2 ⟨b, rfl, hq, h2⟩
  have HQ := hide hq
  have H2 := hide (chain H1.out h2)
  have HC2 := hide (HC.out.below h2 lt2)
  clear hq h2 z0 z1 z2 z3 z4 z5 z6 z7 z8 z9 s0 HC
  have c4 : w2.cell? ⟨w.heap.size + 1 + 1, 7, none⟩ = some (.slice c.A c.l.length c.cap) := HC2.out.cell 7
  cases b
  · go_wp2_with fail
    go_ret
    exact FewP.no H2.out
  · go_wp2_with fail
    go_ret
    exact ⟨_, rfl, fun _ => HQ.out trivial, H2.out⟩
end Go.Proofs.YtmfohnchnbgbaaaGreat
