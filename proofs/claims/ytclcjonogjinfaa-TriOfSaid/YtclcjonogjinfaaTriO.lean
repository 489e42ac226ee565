/- An amount put into a triangle: the program's walk where it is not refused at once. -/
import Derived.Test.YtclcjonogjinfaaTriN
import Derived.Deep.CutRange
namespace Go.Proofs.Ytclcjonogjinfaa
open Go.RowKit

theorem make_rows (n : Nat) (hm : n ≤ 1000) (W : World) :
    (Instr.makeSlice 22 (.int .i64 (n : Int)) (.int .i64 (n : Int))).run Try.prog W = .ok (.slice (some ⟨W.heap.size, 0, none⟩) n n) (W.alloc (.cells (List.replicate n (.slice none 0 0)).toArray 28)) := by
  have h := run_make_row' (P := Try.prog) 22 28 (.slice none 0 0) 24 Try.underlying22 (by kernel_rfl) rfl .i64 .i64 n (by omega) (by omega) W
  have e : madeCells #[Value.slice none 0 0] n = (List.replicate n (Value.slice none 0 0)).toArray := by
    apply Array.ext'
    rw [toList_madeCells_one]
  rw [h, e]
theorem nils_flat (n : Nat) : (List.replicate n [Value.slice none 0 0]).flatten = List.replicate n (Value.slice none 0 0) := by
  induction n with
  | zero => rfl
  | succ n ih => rw [List.replicate_succ, List.flatten_cons, ih, List.replicate_succ]; rfl
theorem nils_ok (n : Nat) : RowsOk 1 (List.replicate n [Value.slice none 0 0]) := fun r hr => by
  have := (List.mem_replicate.1 hr).2
  subst this
  exact ⟨rfl, fun u hu => by simp at hu; subst hu; rfl⟩

theorem ts_new1 (w1 : World) (f : Int) (n : Nat) (hn : n ≤ 1000) : TS w1 (w1.heap.size + 1) f [] (List.replicate n [.slice none 0 0]) (some ⟨w1.heap.size, 0, none⟩) n
    (((w1.alloc (.cells (Array.replicate n (.slice none 0 0)) 28)).alloc (.cells #[.int .i64 f, .slice (some ⟨w1.heap.size, 0, none⟩) n n] 24)).drew) := by
  have ho := (OwnS.lit w1 (B := w1.heap.size) (Nat.le_refl _) 28 (sz := 1) (List.replicate n [.slice none 0 0]) (nils_ok n) (by simp [maxLen]; omega) (Array.replicate n (.slice none 0 0)) (by rw [nils_flat]; simp)).alloc (.cells #[.int .i64 f, .slice (some ⟨w1.heap.size, 0, none⟩) n n] 24)
  rw [List.length_replicate] at ho
  refine ⟨?_, ?_, (fun r hr => by simp at hr), (fun r hr => by simp at hr), (fun i j r s hr => by simp at hr), by simp [blk], by omega, (((Below.refl _ _).alloc (Nat.le_refl _) _).alloc (by simp) _).drew⟩
  · rw [List.length_nil, List.length_replicate, Nat.zero_add]
    exact (Blk.new' (by simp)).drew
  · rw [List.length_nil, List.length_replicate, Nat.zero_add, List.map_nil, List.nil_append]
    exact ho.drew
theorem ts_new2 (w1 : World) (f : Int) (n : Nat) (hn : n ≤ 1000) : TS w1 w1.heap.size f [] (List.replicate n [.slice none 0 0]) (some ⟨w1.heap.size + 1, 0, none⟩) n
    (((w1.alloc (.cells #[.int .i64 f, .slice (some ⟨w1.heap.size + 1, 0, none⟩) n n] 24)).alloc (.cells (Array.replicate n (.slice none 0 0)) 28)).drew) := by
  have ho := OwnS.lit (w1.alloc (.cells #[.int .i64 f, .slice (some ⟨w1.heap.size + 1, 0, none⟩) n n] 24)) (B := w1.heap.size) (by simp) 28 (sz := 1) (List.replicate n [.slice none 0 0]) (nils_ok n) (by simp [maxLen]; omega) (Array.replicate n (.slice none 0 0)) (by rw [nils_flat]; simp)
  rw [List.length_replicate] at ho
  simp only [World.size_alloc] at ho
  refine ⟨?_, ?_, (fun r hr => by simp at hr), (fun r hr => by simp at hr), (fun i j r s hr => by simp at hr), by simp [blk], by omega, (((Below.refl _ _).alloc (Nat.le_refl _) _).alloc (by simp) _).drew⟩
  · rw [List.length_nil, List.length_replicate, Nat.zero_add]
    exact ((Blk.new _ _ _).alloc _).drew
  · rw [List.length_nil, List.length_replicate, Nat.zero_add, List.map_nil, List.nil_append]
    exact ho.drew

set_option maxRecDepth 100000 in
set_option maxHeartbeats 8000000 in
theorem put_yes (f : Int) (A : Option Addr) (cap : Nat) (M : List Rw) (y dev amt : Int) (w : World) (hs : MV w A M.length cap M) (hf : ok64 f) (h : putE f (allM M) y dev amt ≠ 1) :
    Calls Try.prog 20 #[.agg #[.int .i64 f, .slice A M.length cap], .int .i64 y, .int .i64 dev, .int .i64 amt] w (PutN w f (putR f (allM M) y dev amt) (putE f (allM M) y dev amt)) := by
  have HS := hide hs
  clear hs
  have hh : rightC f (allM M) = true ∧ f ≤ y ∧ y < f + M.length ∧ 0 ≤ amt ∧ amt ≤ 1000000000000000 ∧ 0 ≤ dev ∧ dev < M.length - (y - f) ∧
      putE f (allM M) y dev amt = if capB (moreL dev amt ((allM M).getD (y - f).toNat [])) = false then 5 else 0 := by
    unfold putE at h ⊢
    rw [allM_len] at h ⊢
    by_cases hb : (rightC f (allM M) = false ∨ y < f ∨ f + (M.length : Int) ≤ y ∨ dev < 0 ∨ (M.length : Int) - (y - f) ≤ dev ∨ amt < 0 ∨ 1000000000000000 < amt)
    · rw [if_pos hb] at h; omega
    · rw [if_neg hb]
      simp only [not_or, Bool.not_eq_false] at hb
      refine ⟨hb.1, by omega, by omega, by omega, by omega, by omega, by omega, rfl⟩
  obtain ⟨hr, g1, g2, g3, g4, g5, g6, hE⟩ := hh
  have hbd : 1 ≤ M.length ∧ M.length ≤ 20 ∧ 1601 ≤ f ∧ f ≤ 2401 - M.length := by
    have hr' := hr
    rw [rightC, Bool.and_eq_true, allM_len] at hr'; have := hr'.1; simpa only [boundsB, decide_eq_true_eq] using this
  obtain ⟨b1, b2, b3, b4⟩ := hbd
  have HRR := hide (fun (i : Nat) (l : List Int) (hl : (allM M)[i]? = some l) => right_row hr hl)
  have hmo : moneyB amt = true := by simp [moneyB]; omega
  have HE := hide hE
  clear h hE
  go_enter Try.func20, Try.ntmps20
  go_wp2_with fail
  refine (right_any f A cap M _ (HS.out.below (((Below.refl _ _).alloc (Nat.le_refl _) _).alloc (by simp) _)) hf).mono ?_
  rw [hr]
  rintro e w1 ⟨rfl, hb1⟩
  have hz := Blk.below (Blk.new (w.alloc (.cells (triC f A M.length cap) 24)) 24 zeroT) hb1 (by simp)
  simp at hz
  have hba := Blk.below ((Blk.new w 24 (triC f A M.length cap)).alloc (.cells zeroT 24)) hb1 (by simp; omega)
  have k0 := kept hb1 (b := w.heap.size) (o := 0) (u := .int .i64 f) (by simp)
  have k1 := kept hb1 (b := w.heap.size) (o := 1) (u := .slice A M.length cap) (by simp)
  have h1 : Below w.heap.size w w1 := chain (((Below.refl w.heap.size w).alloc (Nat.le_refl _) _).alloc (by simp) _) hb1
  have hzl := hz.lt
  have hzl0 : w.heap.size < w1.heap.size := by omega
  clear hb1 hr
  go_wp2_with fail
  refine (money_any amt _).mono ?_
  rintro e w2 ⟨rfl, rfl⟩
  rw [hmo]
  have hmk := make_rows M.length (by omega)
  have HZ := hide hz
  have HBA := hide hba
  have HB1 := hide h1
  clear hz hba h1 hmo
  go_upto_region 4 with fail
  go_cut [11] from 55 to 59 (fun t wx => ∃ G gA, t = .pointer (some ⟨G, 0, none⟩) ∧ TS w1 G f [] (List.replicate M.length [.slice none 0 0]) (some ⟨gA, 0, none⟩) M.length wx)
  case first =>
    go_region_law (fail)
    all_goals
      go_wp2_with fail
      go_meet
      first
        | exact ⟨_, _, rfl, ts_new1 w1 f M.length (by omega)⟩
        | exact ⟨_, _, rfl, ts_new2 w1 f M.length (by omega)⟩
  case rest =>
    obtain ⟨G, gA, rfl, hT⟩ := hcut
    have HT := hide hT
    clear hT hmk k0 k1
    go_wp2_with fail
    go_loopw [61] (fun i wr => ∃ (k : Nat) (R : List Rw), k ≤ M.length ∧ i = .int .i64 k ∧ R.length = k ∧ allM R = (allM M).take k ∧ TS w1 G f R (List.replicate (M.length - k) [.slice none 0 0]) (some ⟨gA, 0, none⟩) M.length wr) (fun i _ => M.length - (intOf i).toNat)
    case atStart => exact ⟨0, [], Nat.zero_le _, rfl, rfl, rfl, HT.out⟩
    case round =>
      clear HT
      obtain ⟨k, R, hk, rfl, rfl, hRM, hTS⟩ := hrel
      by_cases hlt : R.length < M.length
      · have ho : Blk wr G 24 (triC f (some ⟨gA, 0, none⟩) M.length M.length) := by
          have := hTS.o
          rwa [List.length_replicate, show R.length + (M.length - R.length) = M.length by omega] at this
        have hrep : List.replicate (M.length - R.length) [Value.slice none 0 0] = [.slice none 0 0] :: List.replicate (M.length - (R.length + 1)) [.slice none 0 0] := by
          rw [show M.length - R.length = (M.length - (R.length + 1)) + 1 by omega, List.replicate_succ]
        rw [hrep] at hTS
        obtain ⟨b', off', hA, hgl, hcA⟩ := hTS.own.sl R.length [.slice none 0 0] (by rw [List.getElem?_append_right (by simp)]; simp)
        cases hA
        have cA := hcA 0 _ rfl
        simp only [Nat.mul_one, Nat.add_zero, Nat.zero_add] at cA
        have fA := hTS.own.frozen R.length
        have o1 := ho.cell 1
        simp [triC] at o1
        obtain ⟨⟨B2, l2, bc2⟩, hx⟩ := get_of hlt
        have hbs := HS.out.below (chain HB1.out hTS.bel)
        obtain ⟨bb, off, rfl, hbl, hc⟩ := hbs.sv.sl.rw hx
        have hrow := hbs.rows _ (List.mem_of_getElem? hx)
        have hlen := (HRR.out _ _ (allM_get hx)).1
        rw [allM_len] at hlen
        simp only at hc hrow hlen
        obtain ⟨b2, off2, rfl, hb2, hc2⟩ := hrow.sl.i (k := 0) (get_of (l := l2) (k := 0) (by omega)).choose_spec
        have hbar := HBA.out.below hTS.bel hzl0
        have k1 := hbar.cell 1
        simp [triC] at k1
        have hGl := ho.lt
        obtain ⟨L, hL⟩ : ∃ L : List Int, L = List.replicate (M.length - R.length) 0 := ⟨_, rfl⟩
        have hLl : L.length = M.length - R.length := by rw [hL, List.length_replicate]
        have hLI : (M.length : Int) - (R.length : Int) = L.length := by omega
        have hmk := make_ints (IntKind.i64.wrap ((M.length : Int) - (R.length : Int))) L (by rw [IntWalk.i64_in _ (by omega)]; exact hLI) (by omega) (by rw [hLl]; exact hL)
        have hR20 : R.length ≤ 20 := by omega
        have hkn : (R.length : Int) < (M.length : Int) := by omega
        have hLeq : L.length = l2.length := by omega
        have hL20 : L.length ≤ 20 := by omega
        have HLQ := hide hLeq
        have HTS := hide hTS
        have HRM := hide hRM
        have HX := hide hx
        have HROW := hide hrow
        have HBR := hide hbar
        clear hLl hL hLI hLeq hTS hRM hx hrow hbs ho hbar hc2 hcA hrep hlen
        go_upto_region 8 with fail
        go_region_law (fail)
        all_goals
          obtain ⟨X, hX⟩ : ∃ X, wr.heap.size = X := ⟨_, rfl⟩
          obtain ⟨W, hW⟩ : ∃ W, ((wr.setCell ⟨gA, R.length, none⟩ (.slice (some ⟨wr.heap.size, 0, none⟩) L.length L.length)).alloc (.cells (cellsI L) 3)).drew = W := ⟨_, rfl⟩
          have hTf : TS w1 G f (R ++ [⟨some ⟨X, 0, none⟩, L, L.length⟩]) (List.replicate (M.length - (R.length + 1)) [.slice none 0 0]) (some ⟨gA, 0, none⟩) M.length W := by
            have h := HTS.out.fill (wo := wr.alloc (.cells (cellsI L) 3)) ((Below.refl _ _).alloc (Nat.le_refl _) _) (r := ⟨some ⟨wr.heap.size, 0, none⟩, L, L.length⟩) ⟨wr.heap.size, rfl, rfl, by simp only; omega, Blk.new _ _ _⟩ (fun kk hk => by cases hk; exact Nat.le_refl _)
            rw [World.setCell_alloc_past _ _ _ _ hgl] at h
            rw [← hW, ← hX]
            exact h.drew
          have hBX : Blk W X 3 (cellsI L) := by rw [← hW]; exact (Blk.new' (by rw [← hX]; simp)).drew
          have hWs : W.heap.size = X + 1 := by rw [← hW, ← hX]; simp
          rw [hW, hX]
          have ho : Blk W G 24 (triC f (some ⟨gA, 0, none⟩) M.length M.length) := by
            have := hTf.o
            rwa [List.length_append, List.length_replicate, show R.length + [(⟨some ⟨X, 0, none⟩, L, L.length⟩ : Rw)].length + (M.length - (R.length + 1)) = M.length by simp; omega] at this
          have o1W := ho.cell 1
          simp [triC] at o1W
          obtain ⟨b', off', hA, _, hcA⟩ := hTf.own.sl R.length [.slice (some ⟨X, 0, none⟩) L.length L.length] (by simp [encRw])
          cases hA
          have cAW := hcA 0 _ rfl
          simp only [Nat.mul_one, Nat.add_zero, Nat.zero_add] at cAW
          have hbs := HS.out.below (chain HB1.out hTf.bel)
          obtain ⟨bb', off'', hA, hblW, hcW⟩ := hbs.sv.sl.rw HX.out
          cases hA
          have hrow := hbs.rows _ (List.mem_of_getElem? HX.out)
          simp only at hcW hrow
          have hbar := HBA.out.below hTf.bel hzl0
          have k1W := hbar.cell 1
          simp [triC] at k1W
          have hL2 : l2.length ≤ 20 := by have := HLQ.out; omega
          have HSRC := hide (show ∀ j v, (l2.map (Value.int .i64))[j]? = some v → W.cell? ((⟨b2, off2, none⟩ : Addr).add j) = some v from fun j v hv => by
            rw [List.getElem?_map] at hv
            obtain ⟨x, hx, rfl⟩ := Option.map_eq_some_iff.1 hv
            obtain ⟨b3, off3, hA3, _, h3⟩ := hrow.sl.i hx
            cases hA3
            by_cases hj : j = 0
            · subst hj; simpa [Addr.add] using h3
            · simpa [Addr.add, hj] using h3)
          have HTf := hide hTf
          have HBX := hide hBX
          have HWS := hide hWs
          clear hW hX hTf hBX hWs ho hcA hbs hrow hbar HTS HROW HBR cA fA o1 hc k1 hmk hbl hb2 hGl hgl wr
          go_upto_region 9 with fail
          go_region_law (first
            | (refine step_copy_splice rfl (.tmp 76) (.tmp 81) 28 28 rfl 3 Try.underlying28 (by kernel_rfl) _ _ _ _ _ _ rfl rfl X 0 (L.map (Value.int .i64)) 3 ?_ (l2.map (Value.int .i64)) ?_ ?_ ?_ ?_ X W ?_ (Nat.le_refl _) ?_
               · first | exact HBX.out.drew | exact HBX.out
               · simp only [List.length_map]; rw [HLQ.out]; exact (Nat.min_self _).symm
               · exact fun _ => ⟨rfl, ⟨b2, off2, none⟩, rfl, HSRC.out⟩
               · simp only [List.length_map]; rw [HLQ.out]; omega
               · exact fun v hv => by obtain ⟨x, _, rfl⟩ := List.mem_map.1 hv; rfl
               · first | exact (Below.refl _ _).drew | exact Below.refl _ _
               intro w' HG hB))
          all_goals
            have hg : W.grownBy w' (some X) := ⟨hB.os, hB.tape, hB.output, hB.size, fun i hi hne => hB.block i (by have := HWS.out; have : i ≠ X := fun e => hne (by rw [e]); omega)⟩
            have hy : Blk w' X 3 (cellsI l2) := by
              have h := HG.out
              have e : splice (List.map (Value.int IntKind.i64) L) 0 (List.map (Value.int IntKind.i64) l2) = List.map (Value.int IntKind.i64) l2 := by
                rw [splice, List.take_zero, List.nil_append, List.drop_eq_nil_of_le (by simp only [List.length_map]; rw [HLQ.out]; omega), List.append_nil]
              rw [e] at h; exact h
            have HT3 := hide (HTf.out.over hg HLQ.out.symm hy)
            clear hg hy HG hB
            go_wp2_with fail
            go_roundw
            case rel => exact ⟨R.length + 1, R ++ [⟨some ⟨X, 0, none⟩, l2, L.length⟩], by omega, by go_num, by simp, by rw [allM, List.map_append, take_of (allM_get HX.out)]; exact congrArg (· ++ [l2]) HRM.out, HT3.out⟩
            case measure => simp [intOf]; omega
      · have e : R.length = M.length := by omega
        rw [e, Nat.sub_self, List.replicate_zero] at hTS
        rw [e, List.take_of_length_le (by rw [allM_len]; exact Nat.le_refl _)] at hRM
        rw [e]
        clear hlt hk
        obtain ⟨⟨rA, rl, rc⟩, hr⟩ := get_of (l := R) (k := (y - f).toNat) (by omega)
        have hrm : (allM M)[(y - f).toNat]? = some rl := by rw [← hRM]; exact allM_get hr
        obtain ⟨hrl, hrv⟩ := HRR.out _ _ hrm
        rw [allM_len] at hrl
        obtain ⟨b, hbA, hbc, hbm, hbk⟩ := hTS.rows _ (List.mem_of_getElem? hr)
        simp only at hbA hbc hbm hbk
        subst hbA hbc
        obtain ⟨bb2, off2, hA2, hbl2, hc2⟩ := hTS.mv.sv.sl.rw hr
        cases hA2
        simp only [Nat.zero_add] at hc2
        have o1 := hTS.o0.cell 1
        rw [e] at o1
        simp [triC] at o1
        have hGl := hTS.o0.lt
        have k0 := (HBA.out.below hTS.bel hzl0).cell 0
        simp [triC] at k0
        have hq0 : (0 : Int) ≤ y - f := by omega
        have hq1 : y - f < (M.length : Int) := by omega
        obtain ⟨D, hD⟩ : ∃ D : Nat, dev = (D : Int) := ⟨dev.toNat, by omega⟩
        subst hD
        have hDl : D < rl.length := by omega
        have hrl20 : rl.length ≤ 20 := by omega
        have hgd : (allM M).getD (y - f).toNat [] = rl := by rw [List.getD_eq_getElem?_getD, hrm]; rfl
        have hE2 := HE.out
        rw [hgd] at hE2
        have HE2 := hide hE2
        have HP2 := hide (show putR f (allM M) y D amt = (allM R).set (y - f).toNat (moreL D amt rl) by rw [putR, hgd, hRM])
        have HTS := hide hTS
        have HR := hide hr
        have HRV := hide hrv
        have HLN := hide e
        clear hTS hr hrv hrm hrl hbk hgd hE2 hRM HE e
        go_wp2_with fail
        have hb3 : w1.heap.size ≤ b := (HTS.out.ap _ (List.mem_of_getElem? HR.out) b rfl).1
        clear hc2 o1 hGl k0 hbl2
        obtain ⟨w6, hw6⟩ : ∃ W, wr = W := ⟨_, rfl⟩
        rw [hw6] at HTS ⊢
        clear hw6 wr
        go_loopw [14] (fun i wr => ∃ q : Nat, D ≤ q ∧ q ≤ rl.length ∧ i = .int .i64 q ∧ (∀ (j : Nat) (v : Int), D ≤ j → j < q → rl[j]? = some v → v + amt ≤ 100000000000000000) ∧ TS w1 G f (R.set (y - f).toNat ⟨some ⟨b, 0, none⟩, moreP D amt rl q, rl.length⟩) [] (some ⟨gA, 0, none⟩) M.length wr) (fun i _ => rl.length - (intOf i).toNat)
        case atStart => exact ⟨D, Nat.le_refl _, by omega, rfl, fun j v h1 h2 => by omega, by rw [moreP_start, set_same HR.out]; exact HTS.out⟩
        case round =>
          clear HTS
          obtain ⟨q, hq1, hq2, rfl, hok, hTS⟩ := hrel
          have HOKQ := hide hok
          clear hok
          by_cases hql : q < rl.length
          · obtain ⟨v, hv⟩ := get_of hql
            obtain ⟨v0, v1⟩ := HRV.out v (List.mem_of_getElem? hv)
            have hri := lt_of_get HR.out
            have hr2 : (R.set (y - f).toNat ⟨some ⟨b, 0, none⟩, moreP D amt rl q, rl.length⟩)[(y - f).toNat]? = some ⟨some ⟨b, 0, none⟩, moreP D amt rl q, rl.length⟩ := by rw [List.getElem?_set, if_pos rfl, if_pos hri]
            have hrB := hTS.rows _ (List.mem_of_getElem? hr2)
            obtain ⟨b', hbA, _, _, hbk⟩ := hrB
            simp only at hbA hbk
            cases hbA
            have cv := hbk.cell q
            have fv := hbk.frozen q
            have hb4 := hbk.lt
            rw [cellsI, List.getElem?_toArray, List.getElem?_map, moreP_get hv] at cv
            simp only [Option.map_some] at cv
            have hq0' : (0 : Int) ≤ (q : Int) := by omega
            have hq1' : (q : Int) < (rl.length : Int) := by omega
            have HTS := hide hTS
            have HV := hide hv
            have HR2 := hide hr2
            have HBK := hide hbk
            clear hTS hv hr2 hbk
            have hwr : IntKind.i64.wrap (v + amt) = v + amt := IntWalk.i64_in _ (by omega)
            go_upto_region 16 with fail
            obtain ⟨W, hW⟩ : ∃ W, (wr.setCell ⟨b, q, none⟩ (.int .i64 (v + amt))) = W := ⟨_, rfl⟩
            have hTW : TS w1 G f (R.set (y - f).toNat ⟨some ⟨b, 0, none⟩, moreP D amt rl (q + 1), rl.length⟩) [] (some ⟨gA, 0, none⟩) M.length W := by
              rw [← hW]
              have h1 := (HTS.out.put HR2.out rfl (k := q) (v + amt))
              rw [List.set_set] at h1
              simp only [moreP_set hq1 HV.out] at h1
              exact h1
            have cW : W.cell? ⟨b, q, none⟩ = some (.int .i64 (v + amt)) := by
              rw [← hW, (HBK.out.set_ q (.int .i64 (v + amt))).cell q]
              simp [cellsI, moreP_len, hql]
            have hzW := HZ.out.below hTW.bel hzl
            have z0 := hzW.cell 0
            have z1 := hzW.cell 1
            have t0 := hzW.frozen 0
            have t1 := hzW.frozen 1
            simp [zeroT] at z0 z1
            rw [hW]
            clear hW cv fv hb4
            have HTW := hide hTW
            clear hTW HTS HR2 HBK wr
            by_cases hov : 100000000000000000 < v + amt
            · have HE := hide (show putE f (allM M) y D amt = 5 by rw [HE2.out, capB_no HV.out (by omega) hov, if_pos rfl])
              go_wp2_with fail
              rw [HE.out]
              exact noT_at hzW (by omega) (chain HB1.out HTW.out.bel) (by decide) rfl rfl rfl rfl
            · clear hzW z0 z1 t0 t1
              go_wp2_with fail
              go_roundw
              case rel => exact ⟨q + 1, by omega, by omega, by go_num, fun j u h1 h2 h3 => by
                  by_cases hj : j < q
                  · exact HOKQ.out j u h1 hj h3
                  · obtain rfl : j = q := by omega
                    rw [HV.out] at h3; cases h3; omega, HTW.out⟩
              case measure => simp [intOf]; omega
          · obtain rfl : q = rl.length := by omega
            have hcap : capB (moreL (D : Int) amt rl) = true := capB_yes (fun u hu => (HRV.out u hu).2) (fun j u h1 h2 => HOKQ.out j u (by omega) (lt_of_get h2) h2)
            rw [moreP_end rfl] at hTS
            have HE := hide (show putE f (allM M) y D amt = 0 by rw [HE2.out, hcap]; rfl)
            have HC := hide (show allM (R.set (y - f).toNat ⟨some ⟨b, 0, none⟩, moreL D amt rl, rl.length⟩) = putR f (allM M) y D amt by rw [HP2.out, allM, allM, List.map_set])
            have o0 := hTS.o0.cell 0
            have o1 := hTS.o0.cell 1
            simp [triC] at o0 o1
            have hzW := HZ.out.below hTS.bel hzl
            have z0 := hzW.cell 0
            have z1 := hzW.cell 1
            have t0 := hzW.frozen 0
            have t1 := hzW.frozen 1
            simp [zeroT] at z0 z1
            have HTS := hide hTS
            clear hTS hzW hcap hq1 hq2
            go_wp2_with fail
            rw [HE.out]
            exact yesT_at (n := R.length) HTS.out (by rw [List.length_set]) HB1.out HZ.out (by omega) HC.out rfl rfl rfl rfl
end Go.Proofs.Ytclcjonogjinfaa
