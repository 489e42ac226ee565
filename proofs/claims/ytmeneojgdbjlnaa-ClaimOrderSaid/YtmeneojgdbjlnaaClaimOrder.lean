/- ClaimOrder: what is shown, and what comes back, hangs not on the order in which it was booked. -/
import Derived.Test.YtmeneojgdbjlnaaClaimOrd
import Derived.Deep.CutRange
import Derived.BigQuiet
import Derived.Deep.QuietTactic
import Derived.Deep.DeepCutAuto
namespace Go.Proofs.Ytmeneojgdbjlnaa
open Go.ChangeShapes Go.WideShapes Go.ChangeAt Go.RowKit
set_option linter.unusedVariables false

set_option maxRecDepth 100000 in
set_option maxHeartbeats 16000000 in
theorem claimOrder_walk (w : World) (A : Option Addr) (P : List Int) (p : Nat) (hsp : SV w 1 A P.length p (P.map encU)) (hup : ∀ n ∈ P, okU n) (B : Option Addr) (Q : List Int) (q : Nat) (hsb : SV w 1 B Q.length q (Q.map encU)) (hub : ∀ n ∈ Q, okU n) :
    Calls Try.prog 7 #[.slice A P.length p, .slice B Q.length q] w fun e w' => e = .returned (.bool true) ∧ Below w.heap.size w w' := by
  go_enter Try.func7, Try.ntmps7
  have HSP := hide hsp
  have HSB := hide hsb
  have HUP := hide hup
  have HUB := hide hub
  clear hsp hsb hup hub
  go_wp2_with fail
  refine (awake_b (Below.refl w.heap.size w)).mono ?_
  rintro e w1 ⟨rfl, h1, hb1⟩
  clear hb1
  by_cases hbig : 100 < P.length
  · go_wp2_with fail
    go_ret
    exact ⟨rfl, h1⟩
  by_cases hbig2 : 100 < Q.length
  · have hP : P.length ≤ 100 := by omega
    go_wp2_with fail
    go_ret
    exact ⟨rfl, h1⟩
  have hP : P.length ≤ 100 := by omega
  have hQ : Q.length ≤ 100 := by omega
  go_wp2_with fail
  refine (open_b (c := ⟨1, 1, 0, 1, 1, 0⟩) h1).mono ?_
  rintro e w2 ⟨rfl, h2, hb2⟩
  clear hb2 h1
  go_wp2_with fail
  obtain ⟨w3, hw3⟩ : ∃ W, (w2.alloc (.cells #[.int .i64 1, .int .i64 1, .int .i64 0, .int .i64 1, .int .i64 1, .int .i64 0, .slice none 0 0] 32)).alloc (.cells #[.int .i64 1, .int .i64 1, .int .i64 0, .int .i64 1, .int .i64 1, .int .i64 0, .slice none 0 0] 32) = W := ⟨_, rfl⟩
  have hGA : Blk w3 w2.heap.size 32 (boxC ⟨1, 1, 0, 1, 1, 0⟩ none 0 0) := by rw [← hw3]; exact (Blk.new _ _ _).alloc _
  have hGB : Blk w3 (w2.heap.size + 1) 32 (boxC ⟨1, 1, 0, 1, 1, 0⟩ none 0 0) := by rw [← hw3]; exact Blk.new' (by simp)
  have h3 : Below w.heap.size w w3 := by rw [← hw3]; exact (h2.alloc h2.size _).alloc (h2.alloc h2.size _).size _
  have hG := h2.size
  rw [hw3]
  clear hw3 h2
  obtain ⟨G, hGe⟩ : ∃ G, w2.heap.size = G := ⟨_, rfl⟩
  rw [hGe] at hGA hGB hG ⊢
  clear hGe
  have hGl := hGB.lt
  have HGA := hide hGA
  have HGB := hide hGB
  clear hGA hGB
  go_loopw [8, 9] (fun t i wr => ∃ (k : Nat) (A' : Option Addr) (cap' : Nat), k ≤ P.length ∧ i = .int .i64 k ∧ t = .slice A' k cap' ∧ OwnS wr w3.heap.size 25 3 A' k cap' (((P.take k).map (fun m => (⟨1, 2, m⟩ : Ac))).map encAc) ∧ Below w3.heap.size w3 wr) (fun _ i _ => P.length - (intOf i).toNat)
  case atStart => exact ⟨0, none, 0, Nat.zero_le _, rfl, rfl, OwnS.nil_ _ _ _ _, Below.refl _ _⟩
  case round =>
    obtain ⟨k, A', cap', hk, rfl, rfl, ho, hb⟩ := hrel
    by_cases hlt : k < P.length
    · obtain ⟨x, hx⟩ := get_of hlt
      obtain ⟨x0, x1⟩ := HUP.out x (List.mem_of_getElem? hx)
      obtain ⟨bb, off, rfl, hbl, hc⟩ := ((HSP.out.below h3).below hb).sl.u hx
      have hk0 : (0 : Int) ≤ (k : Int) := by omega
      have hk1 : (k : Int) < (P.length : Int) := by omega
      have hsz := hb.size
      have HX := hide (take_of hx)
      have HO := hide ho
      clear hx ho
      go_wp2_with (at_builtin
                   refine wpList_app rfl (.tmp 35) (.tmp 42) 30 rfl elAc (B := w3.heap.size) (A2 := some ⟨_, 0, none⟩) (news := [(⟨1, 2, x⟩ : Ac)].map encAc) rfl (HO.out.alloc _) rfl rfl ?_ (okAc [⟨1, 2, x⟩]) ?_ ?_ ?_ ?_
                   · exact sl_of_blk (cs := acC 1 2 x) (Blk.new _ _ _)
                   · simp only [maxLen]; omega
                   · omega
                   · simp; omega
                   intro A1 c1 wa ho1 hg1 ha1
                   have hba : Below w3.heap.size w3 wa := (hb.alloc hb.size _).grown hg1 (by simp; omega) (fun kk hk => (HO.out.lt kk hk).1)
                   clear hg1 ha1)
      go_roundw
      case rel => exact ⟨k + 1, A1, c1, by omega, by go_num, rfl, by rw [HX.out, List.map_append, List.map_append]; exact ho1, hba⟩
      case measure => simp [intOf]; omega
    · obtain rfl : k = P.length := by omega
      rw [List.take_length] at ho
      have HO := hide ho
      have HB := hide hb
      obtain ⟨n0, hn0⟩ : ∃ n, P.length = n := ⟨_, rfl⟩
      obtain ⟨R0, hR0⟩ : ∃ R, P.map (fun m => (⟨1, 2, m⟩ : Ac)) = R := ⟨_, rfl⟩
      rw [hR0] at ho
      have HR0 := hide hR0
      have HO := hide ho
      clear ho hb hR0 hn0
      go_wp2_with fail
      obtain ⟨wo, rfl⟩ : ∃ wo : World, wo = wr := ⟨_, rfl⟩
      go_loopw [8, 10] (fun t i wr => ∃ (k m : Nat) (A' : Option Addr) (cap' : Nat), k ≤ Q.length ∧ m = P.length + k ∧ i = .int .i64 k ∧ t = .slice A' m cap' ∧ OwnS wr w3.heap.size 25 3 A' m cap' ((R0 ++ (Q.take k).map (fun m => (⟨1, 3, m⟩ : Ac))).map encAc) ∧ Below w3.heap.size w3 wr) (fun _ i _ => Q.length - (intOf i).toNat)
      case atStart => exact ⟨0, P.length, A', cap', Nat.zero_le _, rfl, rfl, rfl, by simpa using HO.out, HB.out⟩
      case round =>
        clear HO HB
        obtain ⟨k, m, A', cap', hk, hm, rfl, rfl, ho, hb⟩ := hrel
        have HMm := hide hm
        have hmle : m ≤ 200 := by omega
        clear hm
        by_cases hlt : k < Q.length
        · obtain ⟨x, hx⟩ := get_of hlt
          obtain ⟨x0, x1⟩ := HUB.out x (List.mem_of_getElem? hx)
          obtain ⟨bb, off, rfl, hbl, hc⟩ := ((HSB.out.below h3).below hb).sl.u hx
          have hk0 : (0 : Int) ≤ (k : Int) := by omega
          have hk1 : (k : Int) < (Q.length : Int) := by omega
          have hsz := hb.size
          have HX := hide (take_of hx)
          have HO := hide ho
          clear hx ho
          go_wp2_with (at_builtin
                       refine wpList_app rfl (.tmp 50) (.tmp 57) 30 rfl elAc (B := w3.heap.size) (A2 := some ⟨_, 0, none⟩) (news := [(⟨1, 3, x⟩ : Ac)].map encAc) rfl (HO.out.alloc _) rfl rfl ?_ (okAc [⟨1, 3, x⟩]) ?_ ?_ ?_ ?_
                       · exact sl_of_blk (cs := acC 1 3 x) (Blk.new _ _ _)
                       · simp only [maxLen]; omega
                       · omega
                       · simp; omega
                       intro A1 c1 wa ho1 hg1 ha1
                       have hba : Below w3.heap.size w3 wa := (hb.alloc hb.size _).grown hg1 (by simp; omega) (fun kk hk => (HO.out.lt kk hk).1)
                       clear hg1 ha1)
          go_roundw
          case rel => exact ⟨k + 1, m + 1, A1, c1, by omega, by have := HMm.out; omega, by go_num, rfl, by rw [HX.out, List.map_append (l₁ := List.take k Q), ← List.append_assoc, List.map_append]; exact ho1, hba⟩
          case measure => simp [intOf]; omega
        · obtain rfl : k = Q.length := by omega
          rw [List.take_length] at ho
          obtain ⟨L, hL⟩ : ∃ L, R0 ++ Q.map (fun m => (⟨1, 3, m⟩ : Ac)) = L := ⟨_, rfl⟩
          rw [hL] at ho
          have hpl : ∀ a ∈ L, Plain a := by
            intro a ha
            rw [← hL, ← HR0.out] at ha
            rcases List.mem_append.1 ha with ha | ha
            · obtain ⟨y, hy, rfl⟩ := List.mem_map.1 ha
              obtain ⟨y0, y1⟩ := HUP.out y hy
              exact ⟨rfl, .inl rfl, y0, y1⟩
            · obtain ⟨y, hy, rfl⟩ := List.mem_map.1 ha
              obtain ⟨y0, y1⟩ := HUB.out y hy
              exact ⟨rfl, .inr rfl, y0, y1⟩
          have hLm : m = L.length := by have := ho.len; simpa using this.symm
          clear hL
          subst hLm
          have HPL := hide hpl
          have hI : OrdI w G L [] [] A' none none cap' 0 0 wr := ⟨HGA.out.below hb (by omega), HGB.out.below hb (by omega), ho.sv, sv_nil _, sv_nil _, fun kk hk => by have := (ho.lt kk hk).1; omega, (fun kk hk => by cases hk), (fun kk hk => by cases hk), hG, h3.trans (hb.mono h3.size)⟩
          have HI := hide hI
          clear hI ho hb hpl h3 HGA HGB HSP HSB HUP HUB HR0 HMm
          go_wp2_with fail
          obtain ⟨wp, rfl⟩ : ∃ wo : World, wo = wr := ⟨_, rfl⟩
          go_loopw [11] (fun i wr => ∃ (k : Nat) (l1 l2 : List Ac) (A1 A2 : Option Addr) (c1 c2 : Nat), k ≤ L.length ∧ i = .int .i64 k ∧ l1 = L.take k ∧ l2 = L.reverse.take k ∧ OrdI w G L l1 l2 A' A1 A2 cap' c1 c2 wr) (fun i _ => L.length - (intOf i).toNat)
          case atStart => exact ⟨0, [], [], none, none, 0, 0, Nat.zero_le _, rfl, rfl, rfl, HI.out⟩
          case round =>
            clear HI
            obtain ⟨k, l1, l2, A1, A2, c1, c2, hk, rfl, hl1, hl2, hI⟩ := hrel
            have HL1 := hide hl1
            have HL2 := hide hl2
            by_cases hlt : k < L.length
            · obtain ⟨⟨xb, xk, xm⟩, hx⟩ := get_of hlt
              obtain ⟨pp, hpp⟩ : ∃ p, L.length - 1 = p := ⟨_, rfl⟩
              obtain ⟨qq, hqq⟩ : ∃ q, pp - k = q := ⟨_, rfl⟩
              obtain ⟨⟨yb, yk, ym⟩, hy⟩ := get_of (l := L) (k := qq) (by omega)
              obtain ⟨bb, off, hA, hbl, hc0, hc1, hc2⟩ := hI.s0.sl.ac hx
              subst hA
              obtain ⟨bb', off', hA, hbl', hd0, hd1, hd2⟩ := hI.s0.sl.ac hy
              cases hA
              simp only at hc0 hc1 hc2 hd0 hd1 hd2
              have hl1n : l1.length ≤ 200 := by rw [hl1, List.length_take]; omega
              have hl2n : l2.length ≤ 200 := by rw [hl2, List.length_take]; omega
              have hpx : putC 1 l1 ⟨xb, xk, xm⟩ = 0 := plain_put (fun a ha => HPL.out a (List.mem_of_mem_take (hl1 ▸ ha))) (HPL.out _ (List.mem_of_getElem? hx)) hl1n
              have hpy : putC 1 l2 ⟨yb, yk, ym⟩ = 0 := plain_put (fun a ha => HPL.out a (List.mem_reverse.1 (List.mem_of_mem_take (hl2 ▸ ha)))) (HPL.out _ (List.mem_of_getElem? hy)) hl2n
              have HN1 := hide (show L.take (k + 1) = l1 ++ [⟨xb, xk, xm⟩] by rw [hl1]; exact take_of hx)
              have HN2 := hide (show L.reverse.take (k + 1) = l2 ++ [⟨yb, yk, ym⟩] by rw [hl2]; exact rev_take hlt (by rw [hpp, hqq]; exact hy))
              have hw1 : IntKind.i64.wrap ((L.length : Int) - 1) = (pp : Int) := by rw [IntWalk.i64_in _ (by omega)]; omega
              have hw2 : IntKind.i64.wrap ((pp : Int) - (k : Int)) = (qq : Int) := by rw [IntWalk.i64_in _ (by omega)]; omega
              have HW1 := hide hw1
              have HW2 := hide hw2
              have HPX := hide hpx
              have HPY := hide hpy
              have a0 := hI.a.cell 0
              have b0 := hI.b.cell 0
              have a1 := hI.a.cell 1
              have b1 := hI.b.cell 1
              have a2 := hI.a.cell 2
              have b2 := hI.b.cell 2
              have a3 := hI.a.cell 3
              have b3 := hI.b.cell 3
              have a4 := hI.a.cell 4
              have b4 := hI.b.cell 4
              have a5 := hI.a.cell 5
              have b5 := hI.b.cell 5
              have a6 := hI.a.cell 6
              have b6 := hI.b.cell 6
              simp [boxC] at a0 a1 a2 a3 a4 a5 a6 b0 b1 b2 b3 b4 b5 b6
              have hga := hI.a.lt
              have hgb := hI.b.lt
              have hk0 : (0 : Int) ≤ (k : Int) := by omega
              have hk1 : (k : Int) < (L.length : Int) := by omega
              have hq0 : (0 : Int) ≤ (qq : Int) := by omega
              have hq1 : (qq : Int) < (L.length : Int) := by omega
              have HI := hide hI
              clear hI hx hy hpx hpy hw1 hw2 hpp hqq hl1 hl2
              go_upto_region 18 with fail
              obtain ⟨wr, rfl⟩ : ∃ W : World, W = wr := ⟨_, rfl⟩
              go_cut [12, 13] from 59 to 94 (fun t u wx => CutP wr ⟨1, 1, 0, 1, 1, 0⟩ (l1 ++ [⟨xb, xk, xm⟩]) (l1.length + 1) t u wx)
              case first =>
                go_region_held3 (fun w' => w'.cell? ⟨G, 0, none⟩ = some (.int .i64 1) ∧ w'.cell? ⟨G, 1, none⟩ = some (.int .i64 1) ∧ w'.cell? ⟨G, 2, none⟩ = some (.int .i64 0) ∧ w'.cell? ⟨G, 3, none⟩ = some (.int .i64 1) ∧ w'.cell? ⟨G, 4, none⟩ = some (.int .i64 1) ∧ w'.cell? ⟨G, 5, none⟩ = some (.int .i64 0) ∧ w'.cell? ⟨G, 6, none⟩ = some (.slice A1 l1.length c1) ∧ w'.cell? ⟨bb, off + k * 3, none⟩ = some (.int .i64 xb) ∧ w'.cell? ⟨bb, off + k * 3 + 1, none⟩ = some (.int .i64 xk) ∧ w'.cell? ⟨bb, off + k * 3 + 2, none⟩ = some (.int .i64 xm)) (first | with_reducible exact ⟨a0, a1, a2, a3, a4, a5, a6, hc0, hc1, hc2⟩ | with_reducible exact ⟨cell_far7 a0 (by omega), cell_far7 a1 (by omega), cell_far7 a2 (by omega), cell_far7 a3 (by omega), cell_far7 a4 (by omega), cell_far7 a5 (by omega), cell_far7 a6 (by omega), cell_far7 hc0 (by omega), cell_far7 hc1 (by omega), cell_far7 hc2 (by omega)⟩ | go_keep)
                  (first
                   | (go_at_call 16
                      with_reducible refine (put_1 (A := A1) (n := l1.length) (cap := c1) (l := l1) (b := xb) (k := xk) (m := xm) (((HI.out.s1.alloc (.cells #[.int .i64 0, .int .i64 0, .int .i64 0, .int .i64 0, .int .i64 0, .int .i64 0, .slice none 0 0] 32)).drew)) (by omega) HPX.out).mono ?_
                      rintro e w2 ⟨B2, d2, rfl, hs2, hb2, hf2⟩
                      have a0 := kept_al hb2 a0
                      have a1 := kept_al hb2 a1
                      have a2 := kept_al hb2 a2
                      have a3 := kept_al hb2 a3
                      have a4 := kept_al hb2 a4
                      have a5 := kept_al hb2 a5
                      have a6 := kept_al hb2 a6
                      have hc0 := kept_al hb2 hc0
                      have hc1 := kept_al hb2 hc1
                      have hc2 := kept_al hb2 hc2
                      have hXX := Blk.below (Blk.drew (Blk.new wr 32 #[.int .i64 0, .int .i64 0, .int .i64 0, .int .i64 0, .int .i64 0, .int .i64 0, .slice none 0 0])) hb2 (Blk.lt (Blk.drew (Blk.new wr 32 #[.int .i64 0, .int .i64 0, .int .i64 0, .int .i64 0, .int .i64 0, .int .i64 0, .slice none 0 0])))
                      have z0 := hXX.cell 0
                      have v0 := hXX.frozen 0
                      have z1 := hXX.cell 1
                      have v1 := hXX.frozen 1
                      have z2 := hXX.cell 2
                      have v2 := hXX.frozen 2
                      have z3 := hXX.cell 3
                      have v3 := hXX.frozen 3
                      have z4 := hXX.cell 4
                      have v4 := hXX.frozen 4
                      have z5 := hXX.cell 5
                      have v5 := hXX.frozen 5
                      have z6 := hXX.cell 6
                      have v6 := hXX.frozen 6
                      have hXl := hXX.lt
                      simp at z0 z1 z2 z3 z4 z5 z6)
                   | (go_at_call 16
                      with_reducible refine (put_1 (A := A1) (n := l1.length) (cap := c1) (l := l1) (b := xb) (k := xk) (m := xm) ((HI.out.s1.drew)) (by omega) HPX.out).mono ?_
                      rintro e w2 ⟨B2, d2, rfl, hs2, hb2, hf2⟩
                      have a0 := kept hb2 a0
                      have a1 := kept hb2 a1
                      have a2 := kept hb2 a2
                      have a3 := kept hb2 a3
                      have a4 := kept hb2 a4
                      have a5 := kept hb2 a5
                      have a6 := kept hb2 a6
                      have hc0 := kept hb2 hc0
                      have hc1 := kept hb2 hc1
                      have hc2 := kept hb2 hc2))
                all_goals
                  go_wp2_with fail
                  go_meet
                  first
                    | with_reducible exact cutQ1 (by omega) hs2 (bel_undrew (by simpa using hb2)) (by simpa using hf2)
                    | with_reducible exact cutQ2 (by omega) hs2 (bel_undrew (by simpa using hb2)) (by simpa using hf2)
              case rest =>
                obtain ⟨wk, rfl⟩ : ∃ W : World, W = wc := ⟨_, rfl⟩
                obtain ⟨X, A3, c3, rfl, rfl, hX, hXw, hs3, hf3, hbk⟩ := hcut
                have b0 := kept hbk b0
                have b1 := kept hbk b1
                have b2 := kept hbk b2
                have b3 := kept hbk b3
                have b4 := kept hbk b4
                have b5 := kept hbk b5
                have b6 := kept hbk b6
                have hd0 := kept hbk hd0
                have hd1 := kept hbk hd1
                have hd2 := kept hbk hd2
                have hga := Nat.lt_of_lt_of_le hga hbk.size
                have hgb := Nat.lt_of_lt_of_le hgb hbk.size
                have hbbk := block_lt_of_cell hd0
                simp only at hbbk
                have HI2 := hide (HI.out.below hbk)
                have HX := hide hX
                have HS3 := hide hs3
                have HF3 := hide hf3
                have HXw := hide hXw
                have hw1 := HW1.out
                have hw2 := HW2.out
                clear a0 a1 a2 a3 a4 a5 a6 hc0 hc1 hc2 hX hs3 hf3 hXw hbk
                go_upto_region 19 with fail
                go_cut [14, 15] from 59 to 94 (fun t u wx => CutP wk ⟨1, 1, 0, 1, 1, 0⟩ (l2 ++ [⟨yb, yk, ym⟩]) (l2.length + 1) t u wx)
                case first =>
                  go_region_held3 (fun w' => w'.cell? ⟨G + 1, 0, none⟩ = some (.int .i64 1) ∧ w'.cell? ⟨G + 1, 1, none⟩ = some (.int .i64 1) ∧ w'.cell? ⟨G + 1, 2, none⟩ = some (.int .i64 0) ∧ w'.cell? ⟨G + 1, 3, none⟩ = some (.int .i64 1) ∧ w'.cell? ⟨G + 1, 4, none⟩ = some (.int .i64 1) ∧ w'.cell? ⟨G + 1, 5, none⟩ = some (.int .i64 0) ∧ w'.cell? ⟨G + 1, 6, none⟩ = some (.slice A2 l2.length c2) ∧ w'.cell? ⟨bb, off + qq * 3, none⟩ = some (.int .i64 yb) ∧ w'.cell? ⟨bb, off + qq * 3 + 1, none⟩ = some (.int .i64 yk) ∧ w'.cell? ⟨bb, off + qq * 3 + 2, none⟩ = some (.int .i64 ym)) (first | with_reducible exact ⟨b0, b1, b2, b3, b4, b5, b6, hd0, hd1, hd2⟩ | with_reducible exact ⟨cell_far7 b0 (by omega), cell_far7 b1 (by omega), cell_far7 b2 (by omega), cell_far7 b3 (by omega), cell_far7 b4 (by omega), cell_far7 b5 (by omega), cell_far7 b6 (by omega), cell_far7 hd0 (by omega), cell_far7 hd1 (by omega), cell_far7 hd2 (by omega)⟩ | go_keep)
                    (first
                     | (go_at_call 16
                        with_reducible refine (put_1 (A := A2) (n := l2.length) (cap := c2) (l := l2) (b := yb) (k := yk) (m := ym) (((HI2.out.s2.alloc (.cells #[.int .i64 0, .int .i64 0, .int .i64 0, .int .i64 0, .int .i64 0, .int .i64 0, .slice none 0 0] 32)).drew)) (by omega) HPY.out).mono ?_
                        rintro e w2 ⟨B2, d2, rfl, hs2, hb2, hf2⟩
                        have b0 := kept_al hb2 b0
                        have b1 := kept_al hb2 b1
                        have b2 := kept_al hb2 b2
                        have b3 := kept_al hb2 b3
                        have b4 := kept_al hb2 b4
                        have b5 := kept_al hb2 b5
                        have b6 := kept_al hb2 b6
                        have hd0 := kept_al hb2 hd0
                        have hd1 := kept_al hb2 hd1
                        have hd2 := kept_al hb2 hd2
                        have hXX := Blk.below (Blk.drew (Blk.new wk 32 #[.int .i64 0, .int .i64 0, .int .i64 0, .int .i64 0, .int .i64 0, .int .i64 0, .slice none 0 0])) hb2 (Blk.lt (Blk.drew (Blk.new wk 32 #[.int .i64 0, .int .i64 0, .int .i64 0, .int .i64 0, .int .i64 0, .int .i64 0, .slice none 0 0])))
                        have z0 := hXX.cell 0
                        have v0 := hXX.frozen 0
                        have z1 := hXX.cell 1
                        have v1 := hXX.frozen 1
                        have z2 := hXX.cell 2
                        have v2 := hXX.frozen 2
                        have z3 := hXX.cell 3
                        have v3 := hXX.frozen 3
                        have z4 := hXX.cell 4
                        have v4 := hXX.frozen 4
                        have z5 := hXX.cell 5
                        have v5 := hXX.frozen 5
                        have z6 := hXX.cell 6
                        have v6 := hXX.frozen 6
                        have hXl := hXX.lt
                        simp at z0 z1 z2 z3 z4 z5 z6)
                     | (go_at_call 16
                        with_reducible refine (put_1 (A := A2) (n := l2.length) (cap := c2) (l := l2) (b := yb) (k := yk) (m := ym) ((HI2.out.s2.drew)) (by omega) HPY.out).mono ?_
                        rintro e w2 ⟨B2, d2, rfl, hs2, hb2, hf2⟩
                        have b0 := kept hb2 b0
                        have b1 := kept hb2 b1
                        have b2 := kept hb2 b2
                        have b3 := kept hb2 b3
                        have b4 := kept hb2 b4
                        have b5 := kept hb2 b5
                        have b6 := kept hb2 b6
                        have hd0 := kept hb2 hd0
                        have hd1 := kept hb2 hd1
                        have hd2 := kept hb2 hd2))
                  all_goals
                    go_wp2_with fail
                    go_meet
                    first
                      | with_reducible exact cutQ1 (by omega) hs2 (bel_undrew (by simpa using hb2)) (by simpa using hf2)
                      | with_reducible exact cutQ2 (by omega) hs2 (bel_undrew (by simpa using hb2)) (by simpa using hf2)
                case rest =>
                  obtain ⟨Y, A4, c4, rfl, rfl, hY, hYw, hs4, hf4, hbk2⟩ := hcut
                  have hI3 := HI2.out.below hbk2
                  have hX := HX.out.below hbk2 HX.out.lt
                  have hs3 := HS3.out.below hbk2
                  have hGX : G + 1 < X := by have := HXw.out; have := HI.out.b.lt; omega
                  have hGY : G + 1 < Y := by omega
                  have hp1 := hI3.put1 (by simp) hs3 (fun kk hk => by have := (HF3.out kk hk).1; have := HI.out.b.lt; omega)
                  have hp2 := hp1.put2 (l' := l2 ++ [⟨yb, yk, ym⟩]) (A' := A4) (c' := c4) (by simp) (sv_far7 hs4 (fun kk hk => by have := (hf4 kk hk).1; omega) _ _ _ _ _ _ _) (fun kk hk => by have := (hf4 kk hk).1; omega)
                  have x0 := hX.cell 0
                  have y0 := hY.cell 0
                  have a0 := hI3.a.cell 0
                  have t0 := hI3.a.frozen 0
                  have b0 := hI3.b.cell 0
                  have s0 := hI3.b.frozen 0
                  have x1 := hX.cell 1
                  have y1 := hY.cell 1
                  have a1 := hI3.a.cell 1
                  have t1 := hI3.a.frozen 1
                  have b1 := hI3.b.cell 1
                  have s1 := hI3.b.frozen 1
                  have x2 := hX.cell 2
                  have y2 := hY.cell 2
                  have a2 := hI3.a.cell 2
                  have t2 := hI3.a.frozen 2
                  have b2 := hI3.b.cell 2
                  have s2 := hI3.b.frozen 2
                  have x3 := hX.cell 3
                  have y3 := hY.cell 3
                  have a3 := hI3.a.cell 3
                  have t3 := hI3.a.frozen 3
                  have b3 := hI3.b.cell 3
                  have s3 := hI3.b.frozen 3
                  have x4 := hX.cell 4
                  have y4 := hY.cell 4
                  have a4 := hI3.a.cell 4
                  have t4 := hI3.a.frozen 4
                  have b4 := hI3.b.cell 4
                  have s4 := hI3.b.frozen 4
                  have x5 := hX.cell 5
                  have y5 := hY.cell 5
                  have a5 := hI3.a.cell 5
                  have t5 := hI3.a.frozen 5
                  have b5 := hI3.b.cell 5
                  have s5 := hI3.b.frozen 5
                  have x6 := hX.cell 6
                  have y6 := hY.cell 6
                  have a6 := hI3.a.cell 6
                  have t6 := hI3.a.frozen 6
                  have b6 := hI3.b.cell 6
                  have s6 := hI3.b.frozen 6
                  simp [boxC] at x0 x1 x2 x3 x4 x5 x6 y0 y1 y2 y3 y4 y5 y6 a0 a1 a2 a3 a4 a5 a6 b0 b1 b2 b3 b4 b5 b6
                  have hxl := hX.lt
                  have hyl := hY.lt
                  have HP := hide hp2
                  clear hp1 hp2 hX hY hs3 hs4 hf4 hbk2 hI3 hYw hw1 hw2 HI HI2 HX HS3 HF3 HXw
                  go_wp2_with fail
                  go_roundw
                  case rel => exact ⟨k + 1, _, _, A3, A4, c3, c4, by omega, by go_num, HN1.out.symm, HN2.out.symm, HP.out⟩
                  case measure => simp [intOf]; omega
            · obtain rfl : k = L.length := by omega
              rw [List.take_length] at hl1
              rw [List.take_of_length_le (by simp)] at hl2
              subst hl1
              subst hl2
              have hst1 := plain_stand _ l1 rfl (by omega) HPL.out
              have hst2 := plain_stand _ l1.reverse rfl (by simp; omega) (fun a ha => HPL.out a (List.mem_reverse.1 ha))
              rw [sumO_rev, sumO_rev] at hst2
              obtain ⟨M, hM⟩ : ∃ M, max 0 (sumO 2 l1) = M := ⟨_, rfl⟩
              have H1 := hide hst1
              have H2 := hide hst2
              have HM := hide hM
              have HI := hide hI
              have a0 := hI.a.cell 0
              have b0 := hI.b.cell 0
              have a1 := hI.a.cell 1
              have b1 := hI.b.cell 1
              have a2 := hI.a.cell 2
              have b2 := hI.b.cell 2
              have a3 := hI.a.cell 3
              have b3 := hI.b.cell 3
              have a4 := hI.a.cell 4
              have b4 := hI.b.cell 4
              have a5 := hI.a.cell 5
              have b5 := hI.b.cell 5
              have a6 := hI.a.cell 6
              have b6 := hI.b.cell 6
              simp [boxC] at a0 a1 a2 a3 a4 a5 a6 b0 b1 b2 b3 b4 b5 b6
              have hga := hI.a.lt
              have hgb := hI.b.lt
              have HS2 : SV wr 3 A2 l1.length c2 (l1.reverse.map encAc) := by have := hI.s2; rwa [List.length_reverse] at this
              have hl200 : l1.length ≤ 9223372036854775807 := by omega
              clear hst1 hst2 hM hI HL1 HL2
              go_wp2_with fail
              go_region_held3 (fun w' => w'.cell? ⟨G, 0, none⟩ = some (.int .i64 1) ∧ w'.cell? ⟨G, 1, none⟩ = some (.int .i64 1) ∧ w'.cell? ⟨G, 2, none⟩ = some (.int .i64 0) ∧ w'.cell? ⟨G, 3, none⟩ = some (.int .i64 1) ∧ w'.cell? ⟨G, 4, none⟩ = some (.int .i64 1) ∧ w'.cell? ⟨G, 5, none⟩ = some (.int .i64 0) ∧ w'.cell? ⟨G, 6, none⟩ = some (.slice A1 l1.length c1) ∧ w'.cell? ⟨G + 1, 0, none⟩ = some (.int .i64 1) ∧ w'.cell? ⟨G + 1, 1, none⟩ = some (.int .i64 1) ∧ w'.cell? ⟨G + 1, 2, none⟩ = some (.int .i64 0) ∧ w'.cell? ⟨G + 1, 3, none⟩ = some (.int .i64 1) ∧ w'.cell? ⟨G + 1, 4, none⟩ = some (.int .i64 1) ∧ w'.cell? ⟨G + 1, 5, none⟩ = some (.int .i64 0) ∧ w'.cell? ⟨G + 1, 6, none⟩ = some (.slice A2 l1.length c2)) (first | with_reducible exact ⟨a0, a1, a2, a3, a4, a5, a6, b0, b1, b2, b3, b4, b5, b6⟩ | go_keep)
                (first
                 | (go_at_call 22
                    with_reducible refine (Stand_1 HI.out.s1 (Below.refl _ _).drew HI.out.bel.drew (by omega) H1.out HM.out).mono ?_
                    rintro e v1 ⟨rfl, z1, g1⟩
                    have a0 := kept g1 a0
                    have a1 := kept g1 a1
                    have a2 := kept g1 a2
                    have a3 := kept g1 a3
                    have a4 := kept g1 a4
                    have a5 := kept g1 a5
                    have a6 := kept g1 a6
                    have b0 := kept g1 b0
                    have b1 := kept g1 b1
                    have b2 := kept g1 b2
                    have b3 := kept g1 b3
                    have b4 := kept g1 b4
                    have b5 := kept g1 b5
                    have b6 := kept g1 b6
                    have hq := (HS2.drew).below g1)
                 | (go_at_call 22
                    with_reducible refine (Stand_1 hq (Below.refl _ _) z1 (by omega) H2.out HM.out).mono ?_
                    rintro e v2 ⟨rfl, z2, g2⟩
                    have a0 := kept g2 a0
                    have a1 := kept g2 a1
                    have a2 := kept g2 a2
                    have a3 := kept g2 a3
                    have a4 := kept g2 a4
                    have a5 := kept g2 a5
                    have a6 := kept g2 a6
                    have b0 := kept g2 b0
                    have b1 := kept g2 b1
                    have b2 := kept g2 b2
                    have b3 := kept g2 b3
                    have b4 := kept g2 b4
                    have b5 := kept g2 b5
                    have b6 := kept g2 b6))
              go_wp2_with fail
              go_ret
              exact ⟨rfl, z2⟩

theorem claimOrder_lifted (os : Os) (started : os.Started) (H : Type) (enc : TypeId × Value → H) :
    ReturnsInHanded {} Try.checked os 7 .any (Rows.claimOrderSpec.pre6 enc Try.prog Try.f7 Rows.claimOrderRow.domain false) (Rows.claimOrderSpec.post enc Try.prog Try.f7 false true false false) := by
  refine returnsInHanded_of_change (C := Try.checked) own started (by kernel_rfl) Try.func7
    (ChangeSpec.witness6 (enc := enc) (C := Try.checked) false ⟨#[], #[.slice none 0 0, .slice none 0 0], []⟩ 8 (by kernel_rfl) (by kernel_rfl) (by kernel_rfl) (by kernel_rfl)) ?_
  intro W base args ds gs before hval0 hW hcnd _
  have hval : ∀ (j : Nat) t v, Try.f7.params[j]? = some t → args[j]? = some v → Value.okWide Try.prog W .any base t v := hval0
  have hW' := hW
  obtain ⟨p, q, hA0, hV, rfl, hfz, hnd⟩ := hW
  have hA : DataW.TrodAll enc Try.prog W 0 (fun _ => true) true Try.f7.params.toList args.toList ds p := hA0
  rw [Try.params7] at hA hval
  obtain ⟨v0, vs0, d0, ds0, p0, q0, hargs, rfl, rfl, h0, r0⟩ := trodAll_cons hA
  obtain ⟨v1, vs1, d1, ds1, p1, q1, rfl, rfl, rfl, h1, r1⟩ := trodAll_cons r0
  obtain ⟨rfl, rfl, rfl⟩ := trodAll_nil r1
  obtain rfl : args = #[v0, v1] := by cases args; simp_all
  obtain ⟨rfl, rfl⟩ := trodVars_none hV
  obtain ⟨A0, l0, p0, rfl, hs0, hu0⟩ := open_u32s (hval 0 47 v0 rfl rfl) h0
  obtain ⟨A1, l1, p1, rfl, hs1, hu1⟩ := open_u32s (hval 1 47 v1 rfl rfl) h1
  refine (claimOrder_walk W A0 l0 p0 hs0 hu0 A1 l1 p1 hs1 hu1).mono fun e W' ⟨he, hb⟩ => ?_
  subst he
  exact ⟨_, rfl, law_post laidOut (by kernel_rfl) rfl Try.underlying4 rfl rfl hW' hb⟩

/-- THE STATEMENT. -/
theorem claimOrder_holds : Rows.ClaimOrderSaid :=
  OpenClaim.holds_of_wide 7 Try.f7 rfl rfl rfl rfl rfl rfl rfl ⟨rfl, rfl, rfl, rfl, rfl⟩ rfl rfl rfl rfl rfl (by kernel_rfl) Try.func7 (by kernel_rfl)
    (of_decide_eq_true (by kernel_rfl)) (by unfold Func.isWrapper; first | (rw [if_pos (by decide +kernel)]; kernel_rfl) | (rw [if_neg (by decide +kernel)]; exact ⟨rfl, rfl⟩))
    (fun os started H enc _ => claimOrder_lifted os started H enc)
end Go.Proofs.Ytmeneojgdbjlnaa
