/- RiskMore: a band behind all others changes nothing for ages that have one; ahead of all it counts for those up to its own; bands may be if their first ones may. For all bands, one more, any age. -/
import Derived.Test.YtiflfhfcdohncaaRiskOpen
import Derived.Test.YtiflfhfcdohncaaApp
import Derived.BigQuiet
import Derived.Deep.QuietTactic
import Derived.Deep.RegionLaw
import Derived.Deep.DeepCutAuto
import Derived.Deep.DeepMust
namespace Go.Proofs.Ytiflfhfcdohncaa
open Go.ChangeShapes Go.WideShapes Go.ChangeAt Go.RowKit
set_option linter.unusedVariables false


def hasB (age : Int) : List Bd → Bool
  | [] => false
  | x :: r => decide (age ≤ x.1) || hasB age r
theorem hasB_take (age : Int) : ∀ (l : List Bd) (k : Nat) (x : Bd), l[k]? = some x → hasB age (l.take (k + 1)) = (hasB age (l.take k) || decide (age ≤ x.1))
  | [], k, x, h => by simp at h
  | y :: r, 0, x, h => by simp at h; subst h; simp [hasB]
  | y :: r, k + 1, x, h => by
    rw [List.take_succ_cons, List.take_succ_cons, hasB, hasB, hasB_take age r k x (by simpa using h), Bool.or_assoc]
theorem bandI_app (age : Int) (x : Bd) : ∀ l : List Bd, bandI age (l ++ [x]) = if hasB age l then bandI age l else (if x.1 < age then 10000 else x.2)
  | [] => by simp [bandI, hasB]
  | y :: r => by
    rw [List.cons_append, bandI, bandI, hasB, bandI_app age x r]
    by_cases h : y.1 < age
    · have h' : decide (age ≤ y.1) = false := by simp; omega
      simp only [if_pos h, h', Bool.false_or]
    · have h' : decide (age ≤ y.1) = true := by simp; omega
      simp only [if_neg h, h', Bool.true_or, if_true]
theorem bandI_none (age : Int) : ∀ l : List Bd, hasB age l = false → bandI age l = 10000
  | [], _ => rfl
  | y :: r, h => by
    rw [hasB, Bool.or_eq_false_iff, decide_eq_false_iff_not] at h
    rw [bandI, if_pos (by omega), bandI_none age r h.2]
theorem rise_app (x : Bd) : ∀ (last : Int) (l : List Bd), rise last (l ++ [x]) = true → rise last l = true
  | _, [], _ => rfl
  | last, y :: r, h => by
    rw [List.cons_append, rise] at h
    rw [rise]
    split at h
    · cases h
    · rename_i hh
      rw [if_neg hh]
      exact rise_app x y.1 r h
theorem bandsB_app (l : List Bd) (x : Bd) (h : bandsB (l ++ [x]) = true) : bandsB l = true := by
  rw [bandsB, Bool.and_eq_true, decide_eq_true_eq] at h ⊢
  exact ⟨rise_app x _ l h.1, by have := h.2; simp at this; omega⟩
theorem elBand : ElT Try.prog 26 31 2 16 := ElT.mk' (z := .agg #[.int .i64 0, .int .i64 0]) Try.underlying26 (by kernel_rfl) rfl (by omega)
theorem okBd (l : List Bd) : RowsOk 2 (l.map encBd) := by
  intro r hr
  obtain ⟨x, _, rfl⟩ := List.mem_map.1 hr
  refine ⟨rfl, fun u hu => ?_⟩
  simp [encBd] at hu
  rcases hu with rfl | rfl <;> rfl

theorem own_of_heap {W : World} {g B : Nat} {e : TypeId} {sz : Nat} (h : W.heap[g]? = some (.cells #[] e (0, 0))) (hB : B ≤ g) : OwnS W B e sz (some ⟨g, 0, none⟩) 0 0 [] :=
  ⟨⟨by simp, .inr ⟨g, 0, #[], rfl, hB, h, Nat.le_refl _, Nat.zero_le _, by simp, by simp⟩⟩, rfl, RowsOk.nil_⟩
theorem sl_of_heap {W : World} {g : Nat} {e : TypeId} {u q : Int} (h : W.heap[g]? = some (.cells #[.int .i64 u, .int .i64 q] e (0, 0))) : Sl W W.heap.size 2 (some ⟨g, 0, none⟩) ([(u, q)].map encBd) := by
  intro i row hr
  match i, hr with
  | 0, hr =>
    simp [encBd] at hr
    subst hr
    refine ⟨_, _, rfl, ?_, fun j x hx => ?_⟩
    · rcases Nat.lt_or_ge g W.heap.size with hlt | hge
      · exact hlt
      · rw [Array.getElem?_eq_none hge] at h; cases h
    · match j, hx with
      | 0, hx => simp at hx; subst hx; rw [cell_of_row W g _ _ _ _ h]; rfl
      | 1, hx => simp at hx; subst hx; rw [cell_of_row W g _ _ _ _ h]; rfl
theorem band_n (A : Option Addr) (c n : Nat) (l : List Bd) (age r : Int) (w w0 : World) (hl : Sl w0 w0.heap.size 2 A (l.map encBd)) (hb : Below w0.heap.size w0 w) (hn : l.length = n) (hm : n ≤ 9223372036854775807) (hc : n ≤ c) (hr : bandI age l = r) :
    Calls Try.prog 14 #[.slice A n c, .int .i64 age] w fun e w' => e = .returned (.int .i64 r) ∧ Below w0.heap.size w0 w' := by
  subst hn; subst hr
  exact (band_any A c l age w ((hl.below hb).more hb.size) hm hc).mono fun e w' ⟨he, hb'⟩ => ⟨he, chain hb hb'⟩
theorem bands_n (A : Option Addr) (c n : Nat) (l : List Bd) (r : Bool) (w w0 : World) (hl : Sl w0 w0.heap.size 2 A (l.map encBd)) (hb : Below w0.heap.size w0 w) (hn : l.length = n) (hm : n ≤ 9223372036854775807) (hr : bandsB l = r) :
    Calls Try.prog 12 #[.slice A n c] w fun e w' => e = .returned (.bool r) ∧ Below w0.heap.size w0 w' := by
  subst hn; subst hr
  exact (bands_any A c l w ((hl.below hb).more hb.size) hm).mono fun e w' ⟨he, hb'⟩ => ⟨he, chain hb hb'⟩
def MoreRel (w1 : World) (l : List Bd) (u q : Int) (t : Value) (wx : World) : Prop :=
  ∃ A' cap', t = .slice A' (l.length + 1) cap' ∧ OwnS wx w1.heap.size 31 2 A' (l.length + 1) cap' ((l ++ [(u, q)]).map encBd) ∧ Below w1.heap.size w1 wx

set_option maxRecDepth 100000 in
set_option maxHeartbeats 4000000 in
theorem riskMore_walk (w : World) (A : Option Addr) (l : List Bd) (c : Nat) (hc : l.length ≤ c) (hm : c ≤ maxLen) (hl : Sl w w.heap.size 2 A (l.map encBd)) (u q : Int) (age : Int) (_wa : (Lit.int .i64 age).wf = true) :
    Calls Try.prog 7 #[.slice A l.length c, .agg #[.int .i64 u, .int .i64 q], .int .i64 age] w fun e w' => e = .returned (.bool true) ∧ Below w.heap.size w w' := by
  unfold maxLen at hm
  have hlen : l.length ≤ 9223372036854775807 := by omega
  have HL := hide hl
  clear hl
  go_enter Try.func7, Try.ntmps7
  go_wp2_with fail
  refine (awake_any _).mono ?_
  rintro e w1 ⟨rfl, hb1⟩
  have k0 : w1.cell? ⟨w.heap.size, 0, none⟩ = some (.int .i64 u) := kept hb1 (by simp)
  have k1 : w1.cell? ⟨w.heap.size, 1, none⟩ = some (.int .i64 q) := kept hb1 (by simp)
  have h1 := chain1 hb1
  have hz1 : w.heap.size < w1.heap.size := by have := hb1.size; simp at this; omega
  clear hb1
  by_cases hbig : 99 < l.length
  · go_wp2_with fail
    go_ret
    exact ⟨rfl, h1⟩
  go_wp2_with fail
  go_loop [8, 9] (fun t i => ∃ k : Nat, k ≤ l.length ∧ i = .int .i64 k ∧ t = .bool (hasB age (l.take k))) (fun _ i => l.length - (intOf i).toNat)
  case atStart => exact ⟨0, Nat.zero_le _, rfl, by simp [hasB]⟩
  case round =>
    obtain ⟨k, hk, rfl, rfl⟩ := hrel
    by_cases hlt : k < l.length
    · obtain ⟨⟨x, y⟩, hx⟩ := get_of hlt
      obtain ⟨bb, off, rfl, hbl, hc0, hc1⟩ := ((HL.out.below h1).more h1.size).bd hx
      have HX := hide (hasB_take age l k _ hx)
      clear hx
      go_wp2_with fail
      all_goals
        go_round
        case rel => exact ⟨k + 1, by omega, by go_num, by rw [HX.out]; simp; try omega⟩
        case measure => simp [intOf]; omega
    · obtain rfl : k = l.length := by omega
      rw [List.take_length]
      go_wp2_with fail
      go_cut [10] (fun t wx => MoreRel w1 l u q t wx)
      case first =>
        have hsl := (HL.out.below h1).more h1.size
        go_region_law (first
          | (refine step_app rfl (.tmp 32) (.tmp 33) 26 rfl elBand (B := w1.heap.size) (rows := []) (A := some ⟨_, 0, none⟩) (news := l.map encBd) rfl ?_ rfl (by simp) ?_ (okBd l) ?_ ?_ ?_ ?_
             · exact own_of_heap (by first | exact heap_alloc_new _ _ | exact heap_alloc2_new _ _ _ | exact heap_alloc2_old _ _ _) (by simp)
             · exact (hsl.below (by repeat (first | exact Below.refl _ _ | refine Below.drew ?_ | refine Below.alloc ?_ (by simp) _))).more (by simp; try omega)
             · (simp only [maxLen]; omega)
             · omega
             · (simp; try omega)
             intro A1 c1 wa ho1 hg1 ha1
             rw [Nat.zero_add, List.nil_append] at ho1
             have hba : Below w1.heap.size w1 wa := Below.grown (by repeat (first | exact Below.refl _ _ | refine Below.drew ?_ | refine Below.alloc ?_ (by simp) _)) hg1 (by simp; try omega) (fun k hk => by simp [blk] at hk; omega)
             have ka0 := hg1.cell (kept (by repeat (first | exact Below.refl _ _ | refine Below.drew ?_ | refine Below.alloc ?_ (by simp) _)) k0) (by simp [blk]; omega)
             have ka1 := hg1.cell (kept (by repeat (first | exact Below.refl _ _ | refine Below.drew ?_ | refine Below.alloc ?_ (by simp) _)) k1) (by simp [blk]; omega))
          | (refine step_app rfl (.tmp 34) (.tmp 36) 26 rfl elBand (B := w1.heap.size) (rows := l.map encBd) (A2 := some ⟨_, 0, none⟩) (news := [(u, q)].map encBd) rfl ?_ rfl rfl ?_ (okBd [(u, q)]) ?_ ?_ ?_ ?_
             · first | exact ho1 | exact ho1.alloc _
             · exact sl_of_heap (by first | exact heap_alloc_new _ _ | exact (hg1.block _ (by simp; try omega) (by simp [blk]; try omega)).trans (heap_alloc2_new _ _ _) | exact (hg1.block _ (by simp; try omega) (by simp [blk]; try omega)).trans (heap_alloc2_old _ _ _))
             · (simp only [maxLen]; omega)
             · omega
             · (have := hg1.size; simp at this; simp; try omega)
             intro A2 c2 wb ho2 hg2 ha2
             have hbb : Below w1.heap.size w1 wb := Below.grown (by first | exact hba | exact hba.alloc hba.size _) hg2 (by have := hba.size; simp; try omega) (fun k hk => (ho1.lt k hk).1)))
        all_goals
          have HF := hide (show MoreRel w1 l u q (.slice A2 (l.length + 1) c2) wb from ⟨A2, c2, rfl, by rw [List.map_append]; exact ho2, hbb⟩)
          clear hba hbb ho1 ho2 hg1 hg2 ha1 ha2 hsl ka0 ka1
          go_wp2_with fail
          go_meet
          exact HF.out
      case rest =>
        obtain ⟨A2, c2, rfl, ho2, hb2⟩ := hcut
        have q0 := kept hb2 k0
        have q1 := kept hb2 k1
        have hz2 := hb2.size
        have hlit : OwnS (wc.alloc (.cells #[.int .i64 u, .int .i64 q] 31)) wc.heap.size 31 2 (some ⟨wc.heap.size, 0, none⟩) 1 1 ([(u, q)].map encBd) :=
          OwnS.lit wc (Nat.le_refl _) 31 ([(u, q)].map encBd) (okBd _) (by simp [maxLen]) #[.int .i64 u, .int .i64 q] rfl
        have hslc := ((HL.out.below h1).more h1.size).below hb2
        have hbc := chain h1 hb2
        have HC2 := ho2.cap_le
        clear k0 k1 h1 hb2
        go_wp2_with (at_builtin
                     go_must (refine wpList_app rfl (.tmp 39) (.tmp 40) 26 rfl elBand rfl hlit rfl (List.length_map _) ?_ (okBd l) ?_ ?_ ?_ ?_)
                     · exact (hslc.below ((Below.refl _ _).alloc hz2 _)).more (by simp; omega)
                     · simp only [maxLen]; omega
                     · omega
                     · simp
                     intro A3 c3 wd ho3 hg3 ha3
                     have hbd : Below wc.heap.size wc wd := ((Below.refl _ _).alloc (Nat.le_refl _) _).grown hg3 (by simp) (fun k hk => by simp [blk] at hk; omega)
                     clear hg3 ha3 hlit)
        have q0' := kept hbd q0
        have q1' := kept hbd q1
        have hzd := hbd.size
        have ho2' := ho2.below hbd
        have hSl := hide ((hslc.below (hbd.mono hz2)).more (Nat.le_trans hz2 hzd))
        have hSb := hide ho2'.sl
        have hSa := hide (show Sl wd wd.heap.size 2 A3 (((u, q) :: l).map encBd) from ho3.sl)
        have hBd := chain hbc hbd
        have hc3 := ho3.cap_le
        obtain ⟨n, hn⟩ : ∃ n, bandI age l = n := ⟨_, rfl⟩
        obtain ⟨hs, hhas⟩ : ∃ b, hasB age l = b := ⟨_, rfl⟩
        obtain ⟨b1, hb1⟩ : ∃ b, bandsB (l ++ [(u, q)]) = b := ⟨_, rfl⟩
        have Hn := hide hn
        have Hh := hide hhas
        have Hb := hide hb1
        have hap := hide (bandI_app age (u, q) l)
        have hno := hide (bandI_none age l)
        have hbp := hide (bandsB_app l (u, q))
        rw [hhas]
        clear hn hhas hb1 q0 q1 ho2 ho3 hbd hslc hbc ho2' HL
        refine (band_n A c l.length l age n _ _ hSl.out (Below.refl _ _) rfl (by omega) (by omega) Hn.out).mono ?_
        rintro e we ⟨rfl, hbe⟩
        cases hs with
        | true =>
          have e1 : bandI age (l ++ [(u, q)]) = n := by rw [hap.out, Hh.out, Hn.out]; rfl
          go_wp2_with fail
          refine (band_n A2 c2 (l.length + 1) _ age n _ _ hSb.out hbe (by simp) (by omega) (by omega) e1).mono ?_
          clear hbe e1
          rintro e wf ⟨rfl, hbf⟩
          go_wp2_with fail
          refine (bands_n A2 c2 (l.length + 1) _ b1 _ _ hSb.out hbf (by simp) (by omega) Hb.out).mono ?_
          clear hbf
          rintro e wg ⟨rfl, hbg⟩
          cases b1 with
          | true =>
            go_wp2_with fail
            refine (bands_n A c l.length l true _ _ hSl.out hbg rfl (by omega) (hbp.out Hb.out)).mono ?_
            clear hbg
            rintro e wk ⟨rfl, hbk⟩
            have p0 := kept hbk q0'
            have p1 := kept hbk q1'
            by_cases hu : u < age
            · have e2 : bandI age ((u, q) :: l) = n := by rw [bandI, if_pos hu, Hn.out]
              go_wp2_with fail
              refine (band_n A3 c3 (1 + l.length) _ age n _ _ hSa.out hbk (by simp; omega) (by omega) (by omega) e2).mono ?_
              clear hbk e2 p0 p1
              rintro e wh ⟨rfl, hbh⟩
              go_wp2_with fail
              go_ret
              exact ⟨rfl, chain hBd hbh⟩
            · have hu' : age ≤ u := by omega
              have e2 : bandI age ((u, q) :: l) = q := by rw [bandI, if_neg hu]
              go_wp2_with fail
              refine (band_n A3 c3 (1 + l.length) _ age q _ _ hSa.out hbk (by simp; omega) (by omega) (by omega) e2).mono ?_
              clear hbk e2 p0 p1
              rintro e wh ⟨rfl, hbh⟩
              go_wp2_with fail
              go_ret
              exact ⟨rfl, chain hBd hbh⟩
          | false =>
            have p0 := kept hbg q0'
            have p1 := kept hbg q1'
            by_cases hu : u < age
            · have e2 : bandI age ((u, q) :: l) = n := by rw [bandI, if_pos hu, Hn.out]
              go_wp2_with fail
              refine (band_n A3 c3 (1 + l.length) _ age n _ _ hSa.out hbg (by simp; omega) (by omega) (by omega) e2).mono ?_
              clear hbg e2 p0 p1
              rintro e wh ⟨rfl, hbh⟩
              go_wp2_with fail
              go_ret
              exact ⟨rfl, chain hBd hbh⟩
            · have hu' : age ≤ u := by omega
              have e2 : bandI age ((u, q) :: l) = q := by rw [bandI, if_neg hu]
              go_wp2_with fail
              refine (band_n A3 c3 (1 + l.length) _ age q _ _ hSa.out hbg (by simp; omega) (by omega) (by omega) e2).mono ?_
              clear hbg e2 p0 p1
              rintro e wh ⟨rfl, hbh⟩
              go_wp2_with fail
              go_ret
              exact ⟨rfl, chain hBd hbh⟩
        | false =>
          go_wp2_with fail
          refine (bands_n A2 c2 (l.length + 1) _ b1 _ _ hSb.out hbe (by simp) (by omega) Hb.out).mono ?_
          clear hbe
          rintro e wg ⟨rfl, hbg⟩
          cases b1 with
          | true =>
            go_wp2_with fail
            refine (bands_n A c l.length l true _ _ hSl.out hbg rfl (by omega) (hbp.out Hb.out)).mono ?_
            clear hbg
            rintro e wk ⟨rfl, hbk⟩
            have p0 := kept hbk q0'
            have p1 := kept hbk q1'
            by_cases hu : u < age
            · have e2 : bandI age ((u, q) :: l) = n := by rw [bandI, if_pos hu, Hn.out]
              go_wp2_with fail
              refine (band_n A3 c3 (1 + l.length) _ age n _ _ hSa.out hbk (by simp; omega) (by omega) (by omega) e2).mono ?_
              clear hbk e2 p0 p1
              rintro e wh ⟨rfl, hbh⟩
              have e3 : bandI age (l ++ [(u, q)]) = n := by rw [hap.out, Hh.out, ← Hn.out, hno.out Hh.out]; simp only [Bool.false_eq_true, if_false]; rw [if_pos hu]
              go_wp2_with fail
              refine (band_n A2 c2 (l.length + 1) _ age n _ _ hSb.out hbh (by simp) (by omega) (by omega) e3).mono ?_
              clear hbh e3
              rintro e wi ⟨rfl, hbi⟩
              go_wp2_with fail
              go_ret
              exact ⟨rfl, chain hBd hbi⟩
            · have hu' : age ≤ u := by omega
              have e2 : bandI age ((u, q) :: l) = q := by rw [bandI, if_neg hu]
              go_wp2_with fail
              refine (band_n A3 c3 (1 + l.length) _ age q _ _ hSa.out hbk (by simp; omega) (by omega) (by omega) e2).mono ?_
              clear hbk e2 p0 p1
              rintro e wh ⟨rfl, hbh⟩
              have e3 : bandI age (l ++ [(u, q)]) = q := by rw [hap.out, Hh.out]; simp only [Bool.false_eq_true, if_false]; rw [if_neg (by omega)]
              go_wp2_with fail
              refine (band_n A2 c2 (l.length + 1) _ age q _ _ hSb.out hbh (by simp) (by omega) (by omega) e3).mono ?_
              clear hbh e3
              rintro e wi ⟨rfl, hbi⟩
              go_wp2_with fail
              go_ret
              exact ⟨rfl, chain hBd hbi⟩
          | false =>
            have p0 := kept hbg q0'
            have p1 := kept hbg q1'
            by_cases hu : u < age
            · have e2 : bandI age ((u, q) :: l) = n := by rw [bandI, if_pos hu, Hn.out]
              go_wp2_with fail
              refine (band_n A3 c3 (1 + l.length) _ age n _ _ hSa.out hbg (by simp; omega) (by omega) (by omega) e2).mono ?_
              clear hbg e2 p0 p1
              rintro e wh ⟨rfl, hbh⟩
              have e3 : bandI age (l ++ [(u, q)]) = n := by rw [hap.out, Hh.out, ← Hn.out, hno.out Hh.out]; simp only [Bool.false_eq_true, if_false]; rw [if_pos hu]
              go_wp2_with fail
              refine (band_n A2 c2 (l.length + 1) _ age n _ _ hSb.out hbh (by simp) (by omega) (by omega) e3).mono ?_
              clear hbh e3
              rintro e wi ⟨rfl, hbi⟩
              go_wp2_with fail
              go_ret
              exact ⟨rfl, chain hBd hbi⟩
            · have hu' : age ≤ u := by omega
              have e2 : bandI age ((u, q) :: l) = q := by rw [bandI, if_neg hu]
              go_wp2_with fail
              refine (band_n A3 c3 (1 + l.length) _ age q _ _ hSa.out hbg (by simp; omega) (by omega) (by omega) e2).mono ?_
              clear hbg e2 p0 p1
              rintro e wh ⟨rfl, hbh⟩
              have e3 : bandI age (l ++ [(u, q)]) = q := by rw [hap.out, Hh.out]; simp only [Bool.false_eq_true, if_false]; rw [if_neg (by omega)]
              go_wp2_with fail
              refine (band_n A2 c2 (l.length + 1) _ age q _ _ hSb.out hbh (by simp) (by omega) (by omega) e3).mono ?_
              clear hbh e3
              rintro e wi ⟨rfl, hbi⟩
              go_wp2_with fail
              go_ret
              exact ⟨rfl, chain hBd hbi⟩

theorem riskMore_lifted (os : Os) (started : os.Started) (H : Type) (enc : TypeId × Value → H) :
    ReturnsInHanded {} Try.checked os 7 .any (Rows.riskMoreSpec.pre6 enc Try.prog Try.f7 Rows.riskMoreRow.domain false) (Rows.riskMoreSpec.post enc Try.prog Try.f7 false true false false) := by
  refine returnsInHanded_of_change (C := Try.checked) own started (by kernel_rfl) Try.func7
    (ChangeSpec.witness6 (enc := enc) (C := Try.checked) false ⟨#[], #[.slice none 0 0, .agg #[.int .i64 0, .int .i64 0], .int .i64 0], []⟩ 8 (by kernel_rfl) (by kernel_rfl) (by kernel_rfl) (by kernel_rfl)) ?_
  intro W base args ds gs before hval0 hW hcnd _
  have hval : ∀ (j : Nat) t v, Try.f7.params[j]? = some t → args[j]? = some v → Value.okWide Try.prog W .any base t v := hval0
  have hW' := hW
  obtain ⟨p, q, hA0, hV, rfl, hfz, hnd⟩ := hW
  have hA : DataW.TrodAll enc Try.prog W 0 (fun _ => true) true Try.f7.params.toList args.toList ds p := hA0
  rw [Try.params7] at hA hval
  obtain ⟨v0, vs0, d0, ds0, p0, q0, hargs, rfl, rfl, h0, r0⟩ := trodAll_cons hA
  obtain ⟨v1, vs1, d1, ds1, p1, q1, rfl, rfl, rfl, h1, r1⟩ := trodAll_cons r0
  obtain ⟨v2, vs2, d2, ds2, p2, q2, rfl, rfl, rfl, h2, r2⟩ := trodAll_cons r1
  obtain ⟨rfl, rfl, rfl⟩ := trodAll_nil r2
  obtain rfl : args = #[v0, v1, v2] := by cases args; simp_all
  obtain ⟨rfl, rfl⟩ := trodVars_none hV
  obtain ⟨A0, l0, c0, rfl, hc0, hm0, hl0⟩ := open_bands (hval 0 26 v0 rfl rfl) h0
  obtain ⟨u1, q1, rfl⟩ := open_band (hval 1 31 v1 rfl rfl) h1
  obtain ⟨x2, rfl, rfl, rfl, wx2⟩ := open_int Try.underlying3 (hval 2 3 v2 rfl rfl) h2
  refine (riskMore_walk W A0 l0 c0 hc0 hm0 hl0 u1 q1 x2 wx2).mono fun e W' ⟨he, hb⟩ => ?_
  subst he
  exact ⟨_, rfl, law_post laidOut (by kernel_rfl) rfl Try.underlying4 rfl rfl hW' hb⟩

/-- THE STATEMENT. -/
theorem riskMore_holds : Rows.RiskMoreSaid :=
  OpenClaim.holds_of_wide 7 Try.f7 rfl rfl rfl rfl rfl rfl rfl ⟨rfl, rfl, rfl, rfl, rfl⟩ rfl rfl rfl rfl rfl (by kernel_rfl) Try.func7 (by kernel_rfl)
    (of_decide_eq_true (by kernel_rfl)) (by unfold Func.isWrapper; first | (rw [if_pos (by decide +kernel)]; kernel_rfl) | (rw [if_neg (by decide +kernel)]; exact ⟨rfl, rfl⟩))
    (fun os started H enc _ => riskMore_lifted os started H enc)
end Go.Proofs.Ytiflfhfcdohncaa
