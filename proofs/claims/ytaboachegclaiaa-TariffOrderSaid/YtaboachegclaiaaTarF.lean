/- Versions that are the same; the plain one; few versions; the document's At. -/
import Derived.Test.YtaboachegclaiaaTarE
namespace Go.Proofs.Ytaboachegclaiaa
open Go.RowKit

set_option maxHeartbeats 1000000 in
theorem sameI_any (A A' : Option Addr) (n cap cap' : Nat) (l : List Int) (w : World) (hs : SV w 1 A n cap (l.map encI)) (hs' : SV w 1 A' n cap' (l.map encI)) (hm : n ≤ 9223372036854775806) :
    Calls Try.prog 29 #[.slice A n cap, .slice A' n cap'] w fun e w' => e = .returned (.bool true) ∧ Below w.heap.size w w' := by
  have hn : l.length = n := by have := hs.len; simpa using this
  subst hn
  have HL := hide hs.sl
  have HL' := hide hs'.sl
  clear hs hs'
  go_enter Try.func29, Try.ntmps29
  go_wp2_with fail
  go_loopw [5] (fun i wr => ∃ k : Nat, k ≤ l.length ∧ i = .int .i64 k ∧ Below w.heap.size w wr) (fun i _ => l.length - (intOf i).toNat)
  case atStart => exact ⟨0, Nat.zero_le _, rfl, Below.refl _ _⟩
  case round =>
    obtain ⟨k, hk, rfl, hb⟩ := hrel
    by_cases hlt : k < l.length
    · obtain ⟨v, hx⟩ := get_of hlt
      obtain ⟨bb, off, rfl, hbl, hc⟩ := ((HL.out.below hb).more hb.size).i hx
      obtain ⟨bb', off', rfl, hbl', hd⟩ := ((HL'.out.below hb).more hb.size).i hx
      have hk0 : (0 : Int) ≤ (k : Int) := by omega
      have hk1 : (k : Int) < (l.length : Int) := by omega
      clear hx
      go_wp2_with fail
      go_quiet (fail)
      go_wp2_with fail
      go_roundw
      case rel => exact ⟨k + 1, by omega, by go_num, bel_drewN hb _⟩
      case measure => simp [intOf]; omega
    · obtain rfl : k = l.length := by omega
      go_wp2_with fail
      go_ret
      exact ⟨rfl, hb⟩


set_option maxHeartbeats 1000000 in
theorem sameB_any (A A' : Option Addr) (n cap cap' : Nat) (l : List Bd) (w : World) (hs : SV w 2 A n cap (l.map encBd)) (hs' : SV w 2 A' n cap' (l.map encBd)) (hm : n ≤ 9223372036854775806) :
    Calls Try.prog 28 #[.slice A n cap, .slice A' n cap'] w fun e w' => e = .returned (.bool true) ∧ Below w.heap.size w w' := by
  have hn : l.length = n := by have := hs.len; simpa using this
  subst hn
  have HL := hide hs.sl
  have HL' := hide hs'.sl
  clear hs hs'
  go_enter Try.func28, Try.ntmps28
  go_wp2_with fail
  go_loopw [5] (fun i wr => ∃ k : Nat, k ≤ l.length ∧ i = .int .i64 k ∧ Below w.heap.size w wr) (fun i _ => l.length - (intOf i).toNat)
  case atStart => exact ⟨0, Nat.zero_le _, rfl, Below.refl _ _⟩
  case round =>
    obtain ⟨k, hk, rfl, hb⟩ := hrel
    by_cases hlt : k < l.length
    · obtain ⟨⟨u, p⟩, hx⟩ := get_of hlt
      obtain ⟨bb, off, rfl, hbl, hc, hd⟩ := ((HL.out.below hb).more hb.size).bd hx
      obtain ⟨bb', off', rfl, hbl', hc', hd'⟩ := ((HL'.out.below hb).more hb.size).bd hx
      have hk0 : (0 : Int) ≤ (k : Int) := by omega
      have hk1 : (k : Int) < (l.length : Int) := by omega
      clear hx
      go_wp2_with fail
      go_quiet (fail)
      go_wp2_with fail
      go_roundw
      case rel => exact ⟨k + 1, by omega, by go_num, bel_drewN hb _⟩
      case measure => simp [intOf]; omega
    · obtain rfl : k = l.length := by omega
      go_wp2_with fail
      go_ret
      exact ⟨rfl, hb⟩

theorem eq_base (a b c d : Int) (w : World) : (Op.equalIn 10000 22 (.agg #[.int .i64 a, .int .i64 b, .int .i64 c, .int .i64 d]) (.agg #[.int .i64 a, .int .i64 b, .int .i64 c, .int .i64 d])).run Try.prog w = .ok true w := by
  have u3 := Try.underlying3
  have a3 := Try.isAgg3
  have z3 := Try.sizeOf3
  rw [show (10000 : Nat) = 9999 + 1 from rfl, Op.equalIn]
  simp only [Sem.run_bind, run_underlying Try.underlying22, Result.andThen_ok]
  simp only [Std.Legacy.Range.forIn_eq_forIn_range', Std.Legacy.Range.size, Nat.sub_zero, Nat.add_sub_cancel, Nat.div_one, List.range'_succ, List.range'_zero, List.forIn_cons, List.forIn_nil]
  go_simp
set_option maxRecDepth 100000 in
set_option maxHeartbeats 4000000 in
/-- Two places of one version. -/
theorem sameV_any (x y : Vw) (w : World) (hs : VOK w x) (hs' : VOK w y) (he : x.v = y.v) (hm : x.age.length ≤ 1000000 ∧ x.zone.length ≤ 1000000 ∧ x.peril.length ≤ 1000000) :
    Calls Try.prog 16 #[.agg #[.int .i64 x.f, .int .i64 x.b0, .int .i64 x.b1, .int .i64 x.b2, .int .i64 x.b3, .slice x.aA x.age.length x.aC, .slice x.zA x.zone.length x.zC, .slice x.pA x.peril.length x.pC, .int .i64 x.mn], .agg #[.int .i64 y.f, .int .i64 y.b0, .int .i64 y.b1, .int .i64 y.b2, .int .i64 y.b3, .slice y.aA y.age.length y.aC, .slice y.zA y.zone.length y.zC, .slice y.pA y.peril.length y.pC, .int .i64 y.mn]] w fun e w' => e = .returned (.bool true) ∧ Below w.heap.size w w' := by
  obtain ⟨xf, x0, x1, x2, x3, xaA, xage, xaC, xzA, xzone, xzC, xpA, xperil, xpC, xmn⟩ := x
  obtain ⟨yf, y0, y1, y2, y3, yaA, yage, yaC, yzA, yzone, yzC, ypA, yperil, ypC, ymn⟩ := y
  simp only [Vw.v, Ver.mk.injEq] at he
  obtain ⟨rfl, rfl, rfl, rfl, rfl, rfl, rfl, rfl, rfl⟩ := he
  obtain ⟨m1, m2, m3⟩ := hm
  simp only at m1 m2 m3
  have HS := hide hs
  have HS' := hide hs'
  clear hs hs'
  go_enter Try.func16, Try.ntmps16
  have heq := eq_base x0 x1 x2 x3
  go_wp2_with fail
  obtain ⟨w1, hw1⟩ : ∃ W, ((w.alloc (.cells #[.int .i64 xf, .int .i64 x0, .int .i64 x1, .int .i64 x2, .int .i64 x3, .slice xaA xage.length xaC, .slice xzA xzone.length xzC, .slice xpA xperil.length xpC, .int .i64 xmn] 26)).alloc (.cells #[.int .i64 xf, .int .i64 x0, .int .i64 x1, .int .i64 x2, .int .i64 x3, .slice yaA xage.length yaC, .slice yzA xzone.length yzC, .slice ypA xperil.length ypC, .int .i64 xmn] 26)) = W := ⟨_, rfl⟩
  have h1 : Below w.heap.size w w1 := by rw [← hw1]; exact ((Below.refl _ _).alloc (Nat.le_refl _) _).alloc (by simp) _
  have hX : Blk w1 w.heap.size 26 #[.int .i64 xf, .int .i64 x0, .int .i64 x1, .int .i64 x2, .int .i64 x3, .slice xaA xage.length xaC, .slice xzA xzone.length xzC, .slice xpA xperil.length xpC, .int .i64 xmn] := by rw [← hw1]; exact (Blk.new _ _ _).alloc _
  have hY : Blk w1 (w.heap.size + 1) 26 #[.int .i64 xf, .int .i64 x0, .int .i64 x1, .int .i64 x2, .int .i64 x3, .slice yaA xage.length yaC, .slice yzA xzone.length yzC, .slice ypA xperil.length ypC, .int .i64 xmn] := by rw [← hw1]; exact Blk.new' (by simp)
  rw [hw1]
  clear hw1 heq
  have x6 := hX.cell 6
  have x7 := hX.cell 7
  have y6 := hY.cell 6
  have y7 := hY.cell 7
  simp at x6 x7 y6 y7
  have HA := hide (HS.out.below h1)
  have HB := hide (HS'.out.below h1)
  have H1 := hide h1
  clear h1 hX hY
  refine (sameB_any xaA yaA xage.length xaC yaC xage _ HA.out.age HB.out.age (by omega)).mono ?_
  rintro e w2 ⟨rfl, hb⟩
  have x6 := kept hb x6
  have x7 := kept hb x7
  have y6 := kept hb y6
  have y7 := kept hb y7
  have HA := hide (HA.out.below hb)
  have HB := hide (HB.out.below hb)
  have H2 := hide (chain H1.out hb)
  clear hb
  go_wp2_with fail
  refine (sameI_any xzA yzA xzone.length xzC yzC xzone _ HA.out.zone HB.out.zone (by omega)).mono ?_
  rintro e w3 ⟨rfl, hb⟩
  have x7 := kept hb x7
  have y7 := kept hb y7
  have HA := hide (HA.out.below hb)
  have HB := hide (HB.out.below hb)
  have H3 := hide (chain H2.out hb)
  clear hb
  go_wp2_with fail
  refine (sameI_any xpA ypA xperil.length xpC ypC xperil _ HA.out.peril HB.out.peril (by omega)).mono ?_
  rintro e w4 ⟨rfl, hb⟩
  go_wp2_with fail
  go_ret
  exact ⟨rfl, chain H3.out hb⟩

/-! ### The plain version -/
def plainV (f : Int) : Ver := ⟨f, 10, 20, 30, 40, [(30, 12000)], [10000], [1, 2, 3, 4, 5, 6, 7, 8], 100⟩
theorem lit_ints (w : World) (l : List Int) (hm : l.length ≤ 1000) (cs : Array Value) (hcs : cs.toList = (l.map encI).flatten) : SV (w.alloc (.cells cs 3)) 1 (some ⟨w.heap.size, 0, none⟩) l.length l.length (l.map encI) := by
  have h := (OwnS.lit w (B := 0) (Nat.zero_le _) 3 (l.map encI) (okI l) (by simp [maxLen]; omega) cs hcs).sv
  rwa [List.length_map] at h
theorem lit_bands (w : World) (l : List Bd) (hm : l.length ≤ 1000) (cs : Array Value) (hcs : cs.toList = (l.map encBd).flatten) : SV (w.alloc (.cells cs 63)) 2 (some ⟨w.heap.size, 0, none⟩) l.length l.length (l.map encBd) := by
  have h := (OwnS.lit w (B := 0) (Nat.zero_le _) 63 (l.map encBd) (okBd l) (by simp [maxLen]; omega) cs hcs).sv
  rwa [List.length_map] at h
set_option maxRecDepth 100000 in
set_option maxHeartbeats 4000000 in
theorem plain_any (f : Int) (w : World) : Calls Try.prog 19 #[.int .i64 f] w (OwnP w (plainV f)) := by
  go_enter Try.func19, Try.ntmps19
  go_wp2_with fail
  obtain ⟨y, hy⟩ : ∃ y : Vw, y = ⟨f, 10, 20, 30, 40, some ⟨w.heap.size + 1, 0, none⟩, [(30, 12000)], 1, some ⟨w.heap.size + 1 + 1, 0, none⟩, [10000], 1, some ⟨w.heap.size + 1 + 1 + 1, 0, none⟩, [1, 2, 3, 4, 5, 6, 7, 8], 8, 100⟩ := ⟨_, rfl⟩
  obtain ⟨wa, ha⟩ : ∃ W, w.alloc (.cells #[.int .i64 f, .int .i64 10, .int .i64 20, .int .i64 30, .int .i64 40, .slice (some ⟨w.heap.size + 1, 0, none⟩) 1 1, .slice (some ⟨w.heap.size + 1 + 1, 0, none⟩) 1 1, .slice (some ⟨w.heap.size + 1 + 1 + 1, 0, none⟩) 8 8, .int .i64 100] 26) = W := ⟨_, rfl⟩
  obtain ⟨wb, hb⟩ : ∃ W, wa.alloc (.cells #[.int .i64 30, .int .i64 12000] 63) = W := ⟨_, rfl⟩
  obtain ⟨wc, hc⟩ : ∃ W, wb.alloc (.cells #[.int .i64 10000] 3) = W := ⟨_, rfl⟩
  obtain ⟨wd, hd⟩ : ∃ W, wc.alloc (.cells #[.int .i64 1, .int .i64 2, .int .i64 3, .int .i64 4, .int .i64 5, .int .i64 6, .int .i64 7, .int .i64 8] 3) = W := ⟨_, rfl⟩
  have sa : wa.heap.size = w.heap.size + 1 := by rw [← ha]; simp
  have sb : wb.heap.size = w.heap.size + 1 + 1 := by rw [← hb]; simp [sa]
  have sc : wc.heap.size = w.heap.size + 1 + 1 + 1 := by rw [← hc]; simp [sb]
  have bcd : Below wc.heap.size wc wd := by rw [← hd]; exact (Below.refl _ _).alloc (Nat.le_refl _) _
  have bbc : Below wb.heap.size wb wc := by rw [← hc]; exact (Below.refl _ _).alloc (Nat.le_refl _) _
  have bab : Below wa.heap.size wa wb := by rw [← hb]; exact (Below.refl _ _).alloc (Nat.le_refl _) _
  have b0a : Below w.heap.size w wa := by rw [← ha]; exact (Below.refl _ _).alloc (Nat.le_refl _) _
  have hX : Blk wd w.heap.size 26 (boxV y) := by
    have h0 : Blk wa w.heap.size 26 (boxV y) := by rw [← ha, hy]; exact Blk.new _ _ _
    exact ((h0.below bab h0.lt).below bbc (h0.below bab h0.lt).lt).below bcd ((h0.below bab h0.lt).below bbc (h0.below bab h0.lt).lt).lt
  have hv : VOK wd y := by
    have h1 := lit_bands wa [(30, 12000)] (by decide) #[.int .i64 30, .int .i64 12000] rfl
    have h2 := lit_ints wb [10000] (by decide) #[.int .i64 10000] rfl
    have h3 := lit_ints wc [1, 2, 3, 4, 5, 6, 7, 8] (by decide) #[.int .i64 1, .int .i64 2, .int .i64 3, .int .i64 4, .int .i64 5, .int .i64 6, .int .i64 7, .int .i64 8] rfl
    rw [hb, sa] at h1
    rw [hc, sb] at h2
    rw [hd, sc] at h3
    rw [hy]
    exact ⟨(h1.below bbc).below bcd, h2.below bcd, h3⟩
  have hfr : FreshV w.heap.size y := by
    rw [hy]
    rintro kk (h | h | h) <;> simp [blk] at h <;> omega
  have hbel : Below w.heap.size w wd := chain (chain (chain b0a bab) bbc) bcd
  rw [ha, hb, hc, hd]
  exact ret_row rfl rfl rfl hX Try.underlying26 rfl (by kernel_rfl) ⟨y, rfl, by rw [hy]; rfl, hv, hfr, hbel⟩
end Go.Proofs.Ytaboachegclaiaa
