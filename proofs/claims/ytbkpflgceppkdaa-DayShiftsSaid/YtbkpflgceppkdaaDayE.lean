/- The second program's Shift: month by month. -/
import Derived.Test.YtbkpflgceppkdaaDayMon
import Derived.Deep.RegionWith
import Derived.Deep.RegionHeld3
import Derived.StillTailTactics
namespace Go.Proofs.Ytbkpflgceppkdaa
open Go.RowKit

def civC (y m d : Int) : Array Value := #[.int .i64 y, .int .i64 m, .int .i64 d]
def civT (t d : Int) : Array Value := #[.int .i64 (1601 + t / 12), .int .i64 (t % 12 + 1), .int .i64 d]
/-- The box of the day, at serial month t. -/
structure BoxT (w : World) (G : Nat) (t d : Int) (wr : World) : Prop where
  b : Blk wr G 23 (civT t d)
  g : w.heap.size ≤ G
  bel : Below w.heap.size w wr
theorem BoxT.m {w wr : World} {G : Nat} {t d : Int} (h : BoxT w G t d wr) {t' : Int} (e : 1601 + t' / 12 = 1601 + t / 12) :
    BoxT w G t' d (wr.setCell ⟨G, 1, none⟩ (.int .i64 (t' % 12 + 1))) :=
  ⟨by have := h.b.set_ 1 (.int .i64 (t' % 12 + 1)); simpa [civT, ← e] using this, h.g, h.bel.setCell (p := ⟨G, 1, none⟩) h.g _⟩
theorem BoxT.my {w wr : World} {G : Nat} {t d x : Int} (h : BoxT w G t d wr) {t' : Int} :
    BoxT w G t' d (((wr.setCell ⟨G, 1, none⟩ (.int .i64 x)).setCell ⟨G, 1, none⟩ (.int .i64 (t' % 12 + 1))).setCell ⟨G, 0, none⟩ (.int .i64 (1601 + t' / 12))) :=
  ⟨by have := ((h.b.set_ 1 (.int .i64 x)).set_ 1 (.int .i64 (t' % 12 + 1))).set_ 0 (.int .i64 (1601 + t' / 12)); simpa [civT] using this, h.g,
   ((h.bel.setCell (p := ⟨G, 1, none⟩) h.g _).setCell (p := ⟨G, 1, none⟩) h.g _).setCell (p := ⟨G, 0, none⟩) h.g _⟩

theorem shR_end {T s d Y M x V E : Int} (hY : 1601 + (T + s) / 12 = Y) (hM : (T + s) % 12 + 1 = M) (hx : x = min d (lenM Y M)) (hd : 1 ≤ d)
    (HS : 0 ≤ T + s ∧ T + s < 9600 ∧ V = baseT (T + s) + min d (lenT (T + s)) ∧ E = 0 ∨ (T + s < 0 ∨ 9600 ≤ T + s) ∧ V = 0 ∧ E = 3) : numV Y M x = V ∧ numE Y M x = E := by
  subst hY hM hx
  have hl := lenM_bd (1601 + (T + s) / 12) ((T + s) % 12 + 1)
  rcases HS with ⟨h1, h2, rfl, rfl⟩ | ⟨h1, rfl, rfl⟩
  · have hr : rightB (1601 + (T + s) / 12) ((T + s) % 12 + 1) (min d (lenM (1601 + (T + s) / 12) ((T + s) % 12 + 1))) = true := right_iff.2 (by omega)
    unfold numV numE
    rw [if_pos hr, if_pos hr]
    exact ⟨by unfold numI baseT lenT; omega, rfl⟩
  · have hr : rightB (1601 + (T + s) / 12) ((T + s) % 12 + 1) (min d (lenM (1601 + (T + s) / 12) ((T + s) % 12 + 1))) ≠ true := fun h => by have := right_iff.1 h; omega
    unfold numV numE
    rw [if_neg hr, if_neg hr]
    exact ⟨rfl, rfl⟩

set_option maxRecDepth 100000 in
set_option maxHeartbeats 4000000 in
theorem shiftR_in (n s : Int) (w : World) (h1 : 1 ≤ n) (h2 : n ≤ 292194) (h3 : -9600 ≤ s) (h4 : s ≤ 9600) : Calls Try.prog 18 #[.int .i64 n, .int .i64 s] w fun e w' => e = .returned (.tuple #[.int .i64 (shV n s), .int .i64 (shE n s)]) ∧ Below w.heap.size w w' := by
  have HM := hide (mon_ok h1 h2)
  have hse := sh_eq h1 h2 h3 h4
  obtain ⟨V, hV⟩ : ∃ V, shV n s = V := ⟨_, rfl⟩
  obtain ⟨E, hE⟩ : ∃ E, shE n s = E := ⟨_, rfl⟩
  rw [hV, hE] at hse ⊢
  have HS := hide hse
  clear hse hV hE
  have ek : okE n = 0 := by rw [okE, if_pos ⟨h1, h2⟩]
  go_enter Try.func18, Try.ntmps18
  go_wp2_with fail
  refine (ofR_val _ _).mono ?_
  rw [ek]
  rintro e w1 ⟨rfl, hb1⟩
  obtain ⟨⟨y, m, d⟩, hp⟩ : ∃ p, ofI n = p := ⟨_, rfl⟩
  have hm := HM.out
  have hs := HS.out
  rw [hp] at hm hs ⊢
  simp only at hm hs ⊢
  obtain ⟨T, hT⟩ : ∃ T, monT n = T := ⟨_, rfl⟩
  rw [hT] at hm hs
  obtain ⟨m1, m2, rfl, rfl, m5, m6, m7⟩ := hm
  have HS := hide hs
  clear HM hs hp hT ek
  have hbox : BoxT w w1.heap.size T d (w1.alloc (.cells #[.int .i64 (1601 + T / 12), .int .i64 (T % 12 + 1), .int .i64 d] 23)) := ⟨Blk.new _ _ _, hb1.size, hb1.alloc hb1.size _⟩
  obtain ⟨G, hG⟩ : ∃ G, w1.heap.size = G := ⟨_, rfl⟩
  rw [hG] at hbox
  go_wp2_with fail
  clear hG hb1
  go_loopw [8] (fun i wr => ∃ k : Int, 0 ≤ k ∧ k ≤ max 0 s ∧ i = .int .i64 k ∧ BoxT w G (T + k) d wr) (fun i _ => (max 0 s - intOf i).toNat)
  case atStart => exact ⟨0, by omega, by omega, rfl, by simpa using hbox⟩
  case round =>
    clear hbox
    obtain ⟨k, hk1, hk2, rfl, hbox⟩ := hrel
    by_cases hlt : k < s
    · have c0 := hbox.b.cell 0
      have c1 := hbox.b.cell 1
      have u0 := hbox.b.frozen 0
      have u1 := hbox.b.frozen 1
      have hlG := hbox.b.lt
      simp [civT] at c0 c1
      have hk9 : k ≤ 9600 := by omega
      by_cases h12 : (T + k) % 12 = 11
      · have hr := hbox.my (x := 13) (t' := T + (k + 1))
        rw [show (T + (k + 1)) % 12 + 1 = 1 by omega, show 1601 + (T + (k + 1)) / 12 = 1601 + (T + k) / 12 + 1 by omega] at hr
        have HR := hide hr
        have hY : 0 ≤ (T + k) / 12 ∧ (T + k) / 12 ≤ 1600 := by omega
        rw [h12] at c1
        obtain ⟨Y, hY'⟩ : ∃ Y, 1601 + (T + k) / 12 = Y := ⟨_, rfl⟩
        rw [hY'] at HR c0
        have hYb : 1601 ≤ Y ∧ Y ≤ 3201 := by omega
        clear hr hbox hY hY' h12
        go_wp2_with fail
        go_round
        case rel => exact ⟨k + 1, by omega, by omega, rfl, HR.out⟩
        case measure => simp [intOf]; omega
      · have hr := hbox.m (t' := T + (k + 1)) (by omega)
        rw [show (T + (k + 1)) % 12 + 1 = (T + k) % 12 + 1 + 1 by omega] at hr
        have HR := hide hr
        obtain ⟨M, hM⟩ : ∃ M, (T + k) % 12 + 1 = M := ⟨_, rfl⟩
        rw [hM] at HR c1
        have hMb : 1 ≤ M ∧ M ≤ 11 := by omega
        have hM13 : (M + 1 == 13) = false := by simp; omega
        clear hr hbox hM h12
        go_wp2_with fail
        go_round
        case rel => exact ⟨k + 1, by omega, by omega, rfl, HR.out⟩
        case measure => simp [intOf]; omega
    · obtain rfl : k = max 0 s := by omega
      go_wp2_with fail
      clear hlt hk1 hk2
      obtain ⟨R, hR⟩ : ∃ R, T + max 0 s = R := ⟨_, rfl⟩
      have hR1 : 0 ≤ R ∧ R ≤ 19200 := by omega
      rw [hR] at hbox
      have hR := hide hR
      go_loopw [9] (fun i wr => ∃ k : Int, k ≤ 0 ∧ min 0 s ≤ k ∧ i = .int .i64 k ∧ BoxT w G (R + k) d wr) (fun i _ => (intOf i - min 0 s).toNat)
      case atStart => exact ⟨0, by omega, by omega, rfl, by simpa using hbox⟩
      case round =>
        clear hbox
        obtain ⟨k, hk1, hk2, rfl, hbox⟩ := hrel
        have c0 := hbox.b.cell 0
        have c1 := hbox.b.cell 1
        have c2 := hbox.b.cell 2
        have u0 := hbox.b.frozen 0
        have u1 := hbox.b.frozen 1
        have u2 := hbox.b.frozen 2
        have hlG := hbox.b.lt
        simp [civT] at c0 c1 c2
        have hk9 : -9600 ≤ k := by omega
        by_cases hlt : s < k
        · by_cases h12 : (R + k) % 12 = 0
          · have hr := hbox.my (x := 0) (t' := R + (k - 1))
            rw [show (R + (k - 1)) % 12 + 1 = 12 by omega, show 1601 + (R + (k - 1)) / 12 = 1601 + (R + k) / 12 - 1 by omega] at hr
            have HR := hide hr
            have hY : -800 ≤ (R + k) / 12 ∧ (R + k) / 12 ≤ 1600 := by omega
            rw [h12] at c1
            obtain ⟨Y, hY'⟩ : ∃ Y, 1601 + (R + k) / 12 = Y := ⟨_, rfl⟩
            rw [hY'] at HR c0
            have hYb : 801 ≤ Y ∧ Y ≤ 3201 := by omega
            clear hr hbox hY hY' h12
            go_wp2_with fail
            go_round
            case rel => exact ⟨k - 1, by omega, by omega, rfl, HR.out⟩
            case measure => simp [intOf]; omega
          · have hr := hbox.m (t' := R + (k - 1)) (by omega)
            rw [show (R + (k - 1)) % 12 + 1 = (R + k) % 12 + 1 - 1 by omega] at hr
            have HR := hide hr
            obtain ⟨M, hM⟩ : ∃ M, (R + k) % 12 + 1 = M := ⟨_, rfl⟩
            rw [hM] at HR c1
            have hMb : 2 ≤ M ∧ M ≤ 12 := by omega
            have hM13 : (M - 1 == 0) = false := by simp; omega
            clear hr hbox hM h12
            go_wp2_with fail
            go_round
            case rel => exact ⟨k - 1, by omega, by omega, rfl, HR.out⟩
            case measure => simp [intOf]; omega
        · have hRs : R + k = T + s := by have := hR.out; omega
          rw [hRs] at hbox c0 c1
          obtain ⟨Y, hY⟩ : ∃ Y, 1601 + (T + s) / 12 = Y := ⟨_, rfl⟩
          obtain ⟨M, hM⟩ : ∃ M, (T + s) % 12 + 1 = M := ⟨_, rfl⟩
          rw [hY] at c0
          rw [hM] at c1
          have hM1 : 1 ≤ M := by omega
          have hM2 : M ≤ 12 := by omega
          obtain ⟨x, hx⟩ : ∃ x, min d (lenM Y M) = x := ⟨_, rfl⟩
          have HN := hide (shR_end hY hM hx.symm m5 HS.out)
          have hY := hide hY
          have hM := hide hM
          have hRs := hide hRs
          have hbl := hbox.bel
          rcases Int.lt_or_le (lenM Y M) d with hld | hld
          · rw [Int.min_eq_right (by omega)] at hx
            subst hx
            clear HS m7
            go_wp2_with fail
            go_region_with (go_at_call 28; refine (monthR_any _ _ _ hM1 hM2).mono ?_; rintro e w' ⟨rfl, rfl⟩)
            all_goals
              go_wp2_with fail
              refine (numberR_val _ _ _ _).mono ?_
              rw [HN.out.1, HN.out.2]
              rintro e w2 ⟨rfl, hb2⟩
              go_wp2_with fail
              go_ret2
              exact ⟨rfl, chain ((hbl.setCell (p := ⟨G, 2, none⟩) hbox.g _).drew) hb2⟩
          · rw [Int.min_eq_left hld] at hx
            subst hx
            clear HS m7
            go_wp2_with fail
            go_region_with (go_at_call 28; refine (monthR_any _ _ _ hM1 hM2).mono ?_; rintro e w' ⟨rfl, rfl⟩)
            all_goals
              go_wp2_with fail
              refine (numberR_val _ _ _ _).mono ?_
              rw [HN.out.1, HN.out.2]
              rintro e w2 ⟨rfl, hb2⟩
              go_wp2_with fail
              go_ret2
              exact ⟨rfl, chain ((hbl.setCell (p := ⟨G, 2, none⟩) hbox.g _).drew) hb2⟩
end Go.Proofs.Ytbkpflgceppkdaa
