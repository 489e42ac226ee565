/- Proved: whatever the first year and the amounts, TopYearsAlike returns true, and its arguments read behind the call as they did ahead of it. Conditions: none beyond those that the given card states. -/
import Derived.BigQuiet
import Derived.Deep.QuietTactic
import Derived.ChangeSame
import Derived.ChangeVars
import Derived.JoinedOf
import Derived.LaidLaws
import Derived.LaidHandle
import Derived.Stop.Joined
import Derived.BigRegion
import Derived.Test.YtmfohnchnbgbaaaGreatDoorTie
import Derived.Test.YtmfohnchnbgbaaaGreatDoorCards
import Derived.SevenTiedAt
import Derived.Test.YtmfohnchnbgbaaaGreatDoorYaM06
/- errors.As at this program's errors: the walk. -/
namespace Go.Proofs.YtmfohnchnbgbaaaGreatDoor
open Go.RowKit Go.Extern.Stop Go.Stop Go.Extern

theorem at_noAs (v : Value) (xT : TypeId) (w : World) : (Instr.typeAssert (.iface 142 v) xT 254 true).run Tryz.prog w = .ok (.tuple #[.nilIface, .bool false]) w := run_typeAssert_lacksB Tryz.underlying254 (by kernel_rfl) (by kernel_rfl) v xT w
theorem at_unwraps (v : Value) (xT : TypeId) (w : World) : (Instr.typeAssert (.iface 142 v) xT 257 true).run Tryz.prog w = .ok (.tuple #[.iface 142 v, .bool true]) w := run_typeAssert_hasB Tryz.underlying257 (by kernel_rfl) v xT w
set_option maxRecDepth 100000 in
set_option maxHeartbeats 4000000 in
theorem as_any (i : Int) (t : Nat) (w : World) (hg : w.cell? ⟨0, 0, none⟩ = some (.iface 249 (.agg #[.pointer (some ⟨3, 90, none⟩)]))) (ht : Blk w t 144 #[.int .i64 0]) :
    Calls Tryz.prog 53 #[.iface 142 (.agg #[.int .i64 i, .iface 144 (.agg #[.int .i64 5])]), .iface 146 (.pointer (some ⟨t, 0, none⟩))] w
      fun e w' => e = .returned (.bool true) ∧ Blk w' t 144 #[.int .i64 5] ∧ Below t w w' := by
  have x31 := @run_callFunc_extern Tryz.prog 92 _ (fun args => ReflectliteValue.unpack (args.getD 0 (.tuple #[]))) Tryz.func92 (by kernel_rfl) (by kernel_rfl) (by kernel_rfl) (by kernel_rfl)
  have x32 := @run_callFunc_extern Tryz.prog 93 _ (ReflectliteValue.methodAny (ReflectliteValue.valueError "reflectlite.Value.Type" 0) (fun t _ _ _ => ReflectliteType.toType t)) Tryz.func93 (by kernel_rfl) (by kernel_rfl) (by kernel_rfl) (by kernel_rfl)
  have x33 := @run_callFunc_extern Tryz.prog 94 _ (ReflectliteValue.method (ReflectliteValue.valueError "reflectlite.Value.IsNil" 0) ReflectliteValue.isNil) Tryz.func94 (by kernel_rfl) (by kernel_rfl) (by kernel_rfl) (by kernel_rfl)
  have x71 := @run_callFunc_extern Tryz.prog 207 _ (ReflectliteType.method ReflectliteType.elem) Tryz.func207 (by kernel_rfl) (by kernel_rfl) (by kernel_rfl) (by kernel_rfl)
  have x72 := @run_callFunc_extern Tryz.prog 208 _ (ReflectliteType.relation "Implements" ReflectliteType.implements_) Tryz.func208 (by kernel_rfl) (by kernel_rfl) (by kernel_rfl) (by kernel_rfl)
  have x37 := @run_callFunc_extern Tryz.prog 140 _ ReflectliteType.typeOf Tryz.func140 (by kernel_rfl) (by kernel_rfl) (by kernel_rfl) (by kernel_rfl)
  have x69 := @run_callFunc_extern Tryz.prog 205 _ (ReflectliteType.relation "AssignableTo" ReflectliteType.assignableTo) Tryz.func205 (by kernel_rfl) (by kernel_rfl) (by kernel_rfl) (by kernel_rfl)
  have x38 := @run_callFunc_extern Tryz.prog 141 _ (ReflectliteValue.method (ReflectliteValue.valueError "reflectlite.Value.Elem" 0) ReflectliteValue.elem) Tryz.func141 (by kernel_rfl) (by kernel_rfl) (by kernel_rfl) (by kernel_rfl)
  have x59 := @run_callFunc_extern Tryz.prog 195 _ (ReflectliteType.abiMethod fun t => do pure (.int .u8 (← Rtype.kind t))) Tryz.func195 (by kernel_rfl) (by kernel_rfl) (by kernel_rfl) (by kernel_rfl)
  have x39 := @run_callFunc_extern Tryz.prog 142 _ ReflectliteValue.set Tryz.func142 (by kernel_rfl) (by kernel_rfl) (by kernel_rfl) (by kernel_rfl)
  have f1 := rl_valueOf60
  have f2 := rl_type60
  have f3 := rl_kind60
  have f4 := rl_kind58
  have f5 := rl_elem60
  have f6 := rl_implements58
  have f7 := rl_assign58
  have f8 := rl_assign56
  have f9 := rl_valueOf58
  have tO1 := fun v w => rl_typeOf 144 v w (Or.inl rfl)
  have tO2 := fun v w => rl_typeOf 142 v w (Or.inr rfl)
  have a1 := at_noAs
  have a2 := at_unwraps
  have g1 := rl_methodKind
  have g2 := rl_methodElem
  have g3 := rl_methodImplements
  have g4 := rl_methodAssignableTo
  have g5 := rl_methodUnwrap
  have hlt : 0 < w.heap.size := block_lt_of_cell hg
  have htl := ht.lt
  have n8 := rl_isNil60 ⟨w.heap.size, 0, none⟩ ⟨t, 0, none⟩ ((w.alloc (.cells #[.pointer (some ⟨t, 0, none⟩)] 146)).alloc (.cells #[.pointer (some ⟨3, 146, none⟩), .pointer (some ⟨w.heap.size, 0, none⟩), .int .u64 150] 197)) (by simp)
  have hg2 : ((w.alloc (.cells #[.pointer (some ⟨t, 0, none⟩)] 146)).alloc (.cells #[.pointer (some ⟨3, 146, none⟩), .pointer (some ⟨w.heap.size, 0, none⟩), .int .u64 150] 197)).cell? ⟨0, 0, none⟩ = some (.iface 249 (.agg #[.pointer (some ⟨3, 90, none⟩)])) := by
    rw [World.cell?_alloc_lt _ _ ⟨0, 0, none⟩ (by simp), World.cell?_alloc_lt _ _ ⟨0, 0, none⟩ hlt]; exact hg
  have el := rl_elemV60 ⟨w.heap.size, 0, none⟩ ⟨t, 0, none⟩ ((((w.alloc (.cells #[.pointer (some ⟨t, 0, none⟩)] 146)).alloc (.cells #[.pointer (some ⟨3, 146, none⟩), .pointer (some ⟨w.heap.size, 0, none⟩), .int .u64 150] 197)).alloc (.cells #[.pointer (some ⟨3, 146, none⟩), .pointer (some ⟨w.heap.size, 0, none⟩), .int .u64 150] 197)).alloc (.cells #[.int .i64 i, .iface 144 (.agg #[.int .i64 5])] 142)) (by rw [World.cell?_alloc_lt _ _ ⟨w.heap.size, 0, none⟩ (by simp; omega), World.cell?_alloc_lt _ _ ⟨w.heap.size, 0, none⟩ (by simp; omega)]; simp)
  have st := rl_set58 t (w.heap.size + 1 + 1 + 1 + 1) 5 (.int .i64 0) (((((w.alloc (.cells #[.pointer (some ⟨t, 0, none⟩)] 146)).alloc (.cells #[.pointer (some ⟨3, 146, none⟩), .pointer (some ⟨w.heap.size, 0, none⟩), .int .u64 150] 197)).alloc (.cells #[.pointer (some ⟨3, 146, none⟩), .pointer (some ⟨w.heap.size, 0, none⟩), .int .u64 150] 197)).alloc (.cells #[.int .i64 i, .iface 144 (.agg #[.int .i64 5])] 142)).alloc (.cells #[.int .i64 5] 144))
    (Blk.new' (by simp))
    (by rw [World.cell?_alloc_lt _ _ ⟨t, 0, none⟩ (by simp; omega), World.cell?_alloc_lt _ _ ⟨t, 0, none⟩ (by simp; omega), World.cell?_alloc_lt _ _ ⟨t, 0, none⟩ (by simp; omega), World.cell?_alloc_lt _ _ ⟨t, 0, none⟩ (by simp; omega), World.cell?_alloc_lt _ _ ⟨t, 0, none⟩ htl]; exact ht.cell 0)
    (by rw [World.frozen?_alloc_old _ _ ⟨t, 0, none⟩ (by simp; omega), World.frozen?_alloc_old _ _ ⟨t, 0, none⟩ (by simp; omega), World.frozen?_alloc_old _ _ ⟨t, 0, none⟩ (by simp; omega), World.frozen?_alloc_old _ _ ⟨t, 0, none⟩ (by simp; omega), World.frozen?_alloc_old _ _ ⟨t, 0, none⟩ (Nat.ne_of_lt htl)]; exact ht.frozen 0)
  go_enter Tryz.func53, Tryz.ntmps53
  go_wp2
  refine wp_loop_rounds 2 ?_
  rw [rounds_succ]
  go_wp2
  rw [rounds_succ]
  go_wp2
  go_ret
  refine ⟨rfl, ?_, ?_⟩
  · have b := (((((ht.alloc (.cells #[.pointer (some ⟨t, 0, none⟩)] 146)).alloc (.cells #[.pointer (some ⟨3, 146, none⟩), .pointer (some ⟨w.heap.size, 0, none⟩), .int .u64 150] 197)).alloc (.cells #[.pointer (some ⟨3, 146, none⟩), .pointer (some ⟨w.heap.size, 0, none⟩), .int .u64 150] 197)).alloc (.cells #[.int .i64 i, .iface 144 (.agg #[.int .i64 5])] 142)).alloc (.cells #[.int .i64 5] 144)).set_ 0 (.int .i64 5)
    exact b
  · refine Below.setCell (p := ⟨t, 0, none⟩) ?_ (Nat.le_refl t) _
    exact (((((Below.refl t w).alloc (by omega) _).alloc (by simp; omega) _).alloc (by simp; omega) _).alloc (by simp; omega) _).alloc (by simp; omega) _
end Go.Proofs.YtmfohnchnbgbaaaGreatDoor

/- The call's error that another error bears; and what years become. -/
namespace Go.Proofs.YtmfohnchnbgbaaaGreatDoor
open Go.RowKit

/-- What reflectlite's own variable for 'error' reads as when the call begins. -/
def Hdl (w : World) : Prop := w.cell? ⟨0, 0, none⟩ = some (.iface 249 (.agg #[.pointer (some ⟨3, 90, none⟩)]))
theorem Hdl.below {w w' : World} (h : Hdl w) (hb : Below w.heap.size w w') : Hdl w' := kept hb h

set_option maxRecDepth 100000 in
theorem found_nil (w : World) : Calls Tryz.prog 28 #[.nilIface] w fun e w' => e = .returned (.int .i64 0) ∧ Below w.heap.size w w' := by
  go_enter Tryz.func28, Tryz.ntmps28
  go_wp2_with fail
  refine (as_nil _ _).mono ?_
  rintro e w1 ⟨rfl, rfl⟩
  go_wp2_with fail
  go_ret
  exact ⟨rfl, (Below.refl _ _).alloc (Nat.le_refl _) _⟩
set_option maxRecDepth 100000 in
theorem found_at (i : Int) (w : World) (hg : Hdl w) : Calls Tryz.prog 28 #[.iface 142 (.agg #[.int .i64 i, .iface 144 (.agg #[.int .i64 5])])] w fun e w' => e = .returned (.int .i64 5) ∧ Below w.heap.size w w' := by
  have hlt : 0 < w.heap.size := block_lt_of_cell hg
  go_enter Tryz.func28, Tryz.ntmps28
  go_wp2_with fail
  refine (as_any i w.heap.size _ (by rw [World.cell?_alloc_lt _ _ ⟨0, 0, none⟩ hlt]; exact hg) (Blk.new _ _ _)).mono ?_
  rintro e w1 ⟨rfl, hblk, hb⟩
  have c0 := hblk.cell 0
  simp only [List.getElem?_toArray, List.getElem?_cons_zero] at c0
  have hb2 : Below w.heap.size w w1 := ((Below.refl _ _).alloc (Nat.le_refl _) _).trans hb
  clear hb hblk
  go_wp2_with fail
  go_ret
  exact ⟨rfl, hb2⟩

/-- What years become, or why not. -/
def ultC (f : Int) (c : List (List Int)) : List Nat × Int := if rightC f c = true then allN (facL c) c else ([], 1)
def UltP (w0 w : World) (s : List Nat × Int) (n : Nat) (e : Ending) (w' : World) : Prop :=
  ∃ A' c', e = .returned (.tuple #[.slice A' n c', .int .i64 s.2]) ∧ OwnS w' w0.heap.size 3 1 A' n c' ((castL s.1).map encI) ∧ Below w0.heap.size w0 w' ∧ Below w.heap.size w w'

set_option maxRecDepth 100000 in
set_option maxHeartbeats 2000000 in
theorem ult_any (f : Int) (A : Option Addr) (cap : Nat) (M : List Rw) (w : World) (hs : MV w A M.length cap M) (hf : ok64 f) (hg : Hdl w) :
    Calls Tryz.prog 8 #[.agg #[.int .i64 f, .slice A M.length cap]] w (UltP w w (ultC f (allM M)) (ultC f (allM M)).1.length) := by
  have HS := hide hs
  have HG := hide hg
  clear hs hg
  go_enter Tryz.func8, Tryz.ntmps8
  go_wp2_with fail
  refine (factors_any f A cap M _ (HS.out.below ((Below.refl _ _).alloc (Nat.le_refl _) _)) hf).mono ?_
  rintro e w1 ⟨hno, hyes, hb, -⟩
  obtain ⟨r, hr⟩ : ∃ b, rightC f (allM M) = b := ⟨_, rfl⟩
  have HR := hide hr
  rw [hr] at hno hyes
  clear hr
  have h1 : Below w.heap.size w w1 := chain1 hb
  cases r
  · obtain rfl := hno rfl
    clear hno hyes hb
    go_wp2_with fail
    go_ret2
    rw [ultC, if_neg (by rw [HR.out]; decide)]
    exact ⟨none, 0, rfl, OwnS.nil_ _ _ _ _, h1, h1⟩
  obtain ⟨A', c', rfl, hown⟩ := hyes rfl
  have t0 := kept hb (b := w.heap.size) (o := 0) (u := .int .i64 f) (by simp)
  have t1 := kept hb (b := w.heap.size) (o := 1) (u := .slice A M.length cap) (by simp)
  have H1 := hide h1
  have hok := right_okC HR.out
  have hbd := right_bounds HR.out
  rw [allM_len] at hbd
  obtain ⟨nF, hnF⟩ : ∃ n, (facL (allM M)).length = n := ⟨_, rfl⟩
  have HOWN := hide hown
  rw [hnF] at HOWN
  rw [hnF]
  have hMn : M.length = nF + 1 := by rw [← hnF, facL_len, allM_len]; omega
  have HOK := hide hok
  have HM := hide hMn
  clear hno hyes hb hown h1 hok hnF hMn
  go_wp2_with fail
  refine (all_any f A A' cap nF c' M (facL (allM M)) _ (HS.out.below H1.out) HOWN.out.sv (okF_facL HOK.out) HR.out HM.out).mono ?_
  rintro e w2 ⟨hz, hnz, hb2⟩
  have h2 := chain H1.out hb2
  have hU : ultC f (allM M) = allN (facL (allM M)) (allM M) := by rw [ultC, if_pos HR.out]
  have hcode := allN_code (facL (allM M)) (allM M)
  obtain ⟨s, hs⟩ : ∃ s, allN (facL (allM M)) (allM M) = s := ⟨_, rfl⟩
  rw [hs] at hz hnz hcode hU
  obtain ⟨L, k⟩ := s
  have H2 := hide h2
  have HB2 := hide hb2
  rcases hcode with hk | ⟨hk, hL⟩
  · simp only at hk
    subst hk
    obtain ⟨A2, c2, rfl, ho⟩ := hz rfl
    have HO := hide ho
    have HU := hide hU
    clear hz hnz ho hU hs h2 hb2
    go_wp2_with fail
    refine (found_nil _).mono ?_
    rintro e w3 ⟨rfl, hb3⟩
    have h3 := chain H2.out hb3
    have ho3 := (HO.out.below hb3).mono H1.out.size
    clear hb3
    go_wp2_with fail
    go_ret2
    rw [HU.out]
    exact ⟨A2, c2, rfl, ho3, h3, h3⟩
  · simp only at hk hL
    subst hk hL
    obtain ⟨i, rfl⟩ := hnz (by decide)
    have HU := hide hU
    clear hz hnz hU hs h2 hb2
    go_wp2_with fail
    refine (found_at i _ (HG.out.below H2.out)).mono ?_
    rintro e w3 ⟨rfl, hb3⟩
    have h3 := chain H2.out hb3
    clear hb3
    go_wp2_with fail
    go_ret2
    rw [HU.out]
    exact ⟨none, 0, rfl, OwnS.nil_ _ _ _ _, h3, h3⟩
end Go.Proofs.YtmfohnchnbgbaaaGreatDoor

/- What is still to come: the program's. -/
namespace Go.Proofs.YtmfohnchnbgbaaaGreatDoor
open Go.RowKit

def DiagO (w : World) (D : List Int) (e : Ending) (w' : World) : Prop := ∃ A' c', e = .returned (.slice A' D.length c') ∧ OwnS w' w.heap.size 3 1 A' D.length c' (D.map encI) ∧ Below w.heap.size w w'

set_option maxRecDepth 100000 in
set_option maxHeartbeats 2000000 in
theorem diagO_any (f : Int) (A : Option Addr) (cap : Nat) (M : List Rw) (w : World) (hs : MV w A M.length cap M) (hf : ok64 f) :
    Calls Tryz.prog 14 #[.agg #[.int .i64 f, .slice A M.length cap]] w (DiagO w (diagL f (allM M))) := by
  have HS := hide hs
  clear hs
  go_enter Tryz.func14, Tryz.ntmps14
  go_wp2_with fail
  refine (right_any f A cap M _ (HS.out.below ((Below.refl _ _).alloc (Nat.le_refl _) _)) hf).mono ?_
  rintro e w1 ⟨rfl, hb1⟩
  have k1 := kept hb1 (b := w.heap.size) (o := 1) (u := .slice A M.length cap) (by simp)
  have h1 : Below w.heap.size w w1 := chain1 hb1
  clear hb1
  cases hr : rightC f (allM M)
  · have HD := hide (show diagL f (allM M) = [] by rw [diagL, if_neg (by simp [hr])])
    go_wp2_with fail
    go_ret
    rw [HD.out]
    exact ⟨none, 0, rfl, OwnS.nil_ _ _ _ _, h1⟩
  have HD := hide (show diagL f (allM M) = (allM M).map lastI by rw [diagL, if_pos hr])
  have HRR := hide (fun (i : Nat) (l : List Int) (h : (allM M)[i]? = some l) => (right_row hr h).1)
  have hM20 : M.length ≤ 20 := by rw [rightC, Bool.and_eq_true, allM_len] at hr; have := hr.1; simp only [boundsB, decide_eq_true_eq] at this; omega
  go_wp2_with fail
  go_loopw [3, 12] (fun t i wr => ∃ (k : Nat) (A' : Option Addr) (cap' : Nat), k ≤ M.length ∧ i = .int .i64 k ∧ t = .slice A' k cap' ∧ OwnS wr w.heap.size 3 1 A' k cap' ((((allM M).take k).map lastI).map encI) ∧ Below w.heap.size w wr) (fun _ i _ => M.length - (intOf i).toNat)
  case atStart => exact ⟨0, none, 0, Nat.zero_le _, rfl, rfl, OwnS.nil_ _ _ _ _, h1⟩
  case round =>
    clear h1 k1
    obtain ⟨k, A', cap', hk, rfl, rfl, ho, hb⟩ := hrel
    by_cases hlt : k < M.length
    · obtain ⟨⟨B, l, bc⟩, hx⟩ := get_of hlt
      have hbs := HS.out.below hb
      obtain ⟨bb, off, rfl, hbl, hc⟩ := hbs.sv.sl.rw hx
      have hrow := hbs.rows _ (List.mem_of_getElem? hx)
      have hlen := HRR.out k l (allM_get hx)
      rw [allM_len] at hlen
      simp only at hc hrow
      obtain ⟨v, hv⟩ := get_of (l := l) (k := l.length - 1) (by omega)
      obtain ⟨b2, off2, rfl, hbl2, hcv⟩ := hrow.sl.i hv
      have hlv : lastI l = v := by rw [lastI, List.getLast?_eq_getElem?, hv]; rfl
      have hk0 : (0 : Int) ≤ (k : Int) := by omega
      have hk1 : (k : Int) < (M.length : Int) := by omega
      have hl1 : (1 : Int) ≤ (l.length : Int) := by omega
      have hl2 : l.length ≤ 20 := by omega
      have hsz := hb.size
      have HT := hide (show ((allM M).take (k + 1)).map lastI = ((allM M).take k).map lastI ++ [v] by rw [take_of (allM_get hx), List.map_append]; simp [hlv])
      have HO := hide ho
      clear hx ho hrow hlen hv hlv hbs
      go_wp2_with (at_builtin
                   refine wpList_app rfl (.tmp 16) (.tmp 23) 36 rfl elInt (B := w.heap.size) (A2 := some ⟨_, 0, none⟩) (news := [v].map encI) rfl (HO.out.alloc _) rfl rfl ?_ (okI [v]) ?_ ?_ ?_ ?_
                   · exact sl_of_blk (cs := #[.int .i64 v]) (Blk.new _ _ _)
                   · simp only [maxLen]; omega
                   · omega
                   · simp; omega
                   intro A1 c1 wa ho1 hg1 ha1
                   have hba : Below w.heap.size w wa := (hb.alloc hb.size _).grown hg1 (by simp; omega) (fun kk hk => (HO.out.lt kk hk).1)
                   clear hg1 ha1)
      go_roundw
      case rel => exact ⟨k + 1, A1, c1, by omega, by go_num, rfl, by rw [HT.out, List.map_append]; exact ho1, hba⟩
      case measure => simp [intOf]; omega
    · obtain rfl : k = M.length := by omega
      rw [List.take_of_length_le (by rw [allM_len]; exact Nat.le_refl _)] at ho
      have HO := hide ho
      clear ho
      go_wp2_with fail
      go_ret
      rw [HD.out]
      have hl : ((allM M).map lastI).length = M.length := by rw [List.length_map, allM_len]
      exact ⟨A', cap', by rw [hl]; rfl, by rw [hl]; exact HO.out, hb⟩

/-! ### What is left -/
theorem mix_set {α : Type} {a b : List α} {j : Nat} {x : α} (hl : a.length = b.length) (hx : a[j]? = some x) : (a.take j ++ b.drop j).set j x = a.take (j + 1) ++ b.drop (j + 1) := by
  have hj : j < a.length := lt_of_get hx
  obtain ⟨y, hy⟩ := get_of (l := b) (k := j) (by omega)
  rw [drop_of hy, take_of hx, List.set_append_right _ _ (by rw [List.length_take]; omega), List.length_take, Nat.min_eq_left (by omega), Nat.sub_self, List.set_cons_zero, List.append_assoc]
  rfl
theorem mix_get {α : Type} {a b : List α} {j : Nat} {y : α} (hl : a.length = b.length) (hy : b[j]? = some y) : (a.take j ++ b.drop j)[j]? = some y := by
  have hj : j < b.length := lt_of_get hy
  rw [drop_of hy, List.getElem?_append_right (by rw [List.length_take]; omega), List.length_take, Nat.min_eq_left (by omega), Nat.sub_self]
  rfl
/-- What is left, year by year. -/
def lefts (U D : List Int) : List Int := List.zipWith (fun u d => u - d) U D
def LeftP (w0 w : World) (X : List Int) (k : Int) (n : Nat) (e : Ending) (w' : World) : Prop :=
  ∃ A' c', e = .returned (.tuple #[.slice A' n c', .int .i64 k]) ∧ OwnS w' w0.heap.size 3 1 A' n c' (X.map encI) ∧ Below w0.heap.size w0 w' ∧ Below w.heap.size w w'
theorem mem_castL {l : List Nat} {v : Int} (h : v ∈ castL l) : ∃ n : Nat, n ∈ l ∧ v = (n : Int) := by
  obtain ⟨n, hn, rfl⟩ := List.mem_map.1 h
  exact ⟨n, hn, rfl⟩
theorem allN_le {F : List (Nat × Nat)} : ∀ {c : List (List Int)}, (∀ l ∈ c, ∀ v ∈ l, 0 ≤ v ∧ v ≤ 100000000000000000) → ∀ n ∈ (allN F c).1, n ≤ 4000000000000000000
  | [], _, n, h => by simp [allN] at h
  | l :: r, hc, n, h => by
    simp only [allN] at h
    split at h
    · split at h
      · rcases List.mem_cons.1 h with rfl | h
        · exact grow_le _ _ (by have := celN_le (hc l (by simp)) (l.length - 1); omega)
        · exact allN_le (fun l hl => hc l (by simp [hl])) n h
      · simp at h
    · simp at h
theorem allN_len {F : List (Nat × Nat)} : ∀ {c : List (List Int)}, (allN F c).2 = 0 → (allN F c).1.length = c.length
  | [], _ => by simp [allN]
  | l :: r, h => by
    simp only [allN] at h ⊢
    split at h
    · rename_i h1
      rw [if_pos h1]
      split at h
      · rename_i h2
        rw [if_pos h2]
        simp [allN_len h2]
      · rename_i h2
        exact absurd h h2
    · rename_i h1
      exact absurd h h1
theorem ultC_len (f : Int) (c : List (List Int)) : (ultC f c).1.length ≤ (diagL f c).length := by
  unfold ultC diagL
  split
  · rcases allN_code (facL c) c with h | ⟨_, h⟩
    · rw [allN_len h, List.length_map]; exact Nat.le_refl _
    · rw [h]; exact Nat.zero_le _
  · exact Nat.zero_le _
theorem ultC_le (f : Int) (c : List (List Int)) : ∀ n ∈ (ultC f c).1, n ≤ 4000000000000000000 := by
  unfold ultC
  split
  · rename_i h
    exact allN_le (right_okC h).2
  · intro n hn; simp at hn
theorem diagL_mem (f : Int) (c : List (List Int)) : ∀ v ∈ diagL f c, 0 ≤ v ∧ v ≤ 100000000000000000 := by
  unfold diagL
  split
  · rename_i h
    intro v hv
    obtain ⟨l, hl, rfl⟩ := List.mem_map.1 hv
    unfold lastI
    cases hg : l.getLast? with
    | none => simp
    | some x => exact (right_okC h).2 l hl x (List.mem_of_getLast? hg)
  · intro v hv; simp at hv
theorem diagL_len (f : Int) (c : List (List Int)) : (diagL f c).length ≤ 20 := by
  unfold diagL
  split
  · rename_i h
    rw [List.length_map]; exact (right_okC h).1
  · exact Nat.zero_le _

set_option maxRecDepth 100000 in
set_option maxHeartbeats 2000000 in
theorem left_any (f : Int) (A : Option Addr) (cap : Nat) (M : List Rw) (w : World) (hs : MV w A M.length cap M) (hf : ok64 f) (hg : Hdl w) :
    Calls Tryz.prog 9 #[.agg #[.int .i64 f, .slice A M.length cap]] w (LeftP w w (lefts (castL (ultC f (allM M)).1) (diagL f (allM M))) (ultC f (allM M)).2 (ultC f (allM M)).1.length) := by
  have HS := hide hs
  have HG := hide hg
  clear hs hg
  have hul := ultC_len f (allM M)
  have hue := ultC_le f (allM M)
  have hde := diagL_mem f (allM M)
  have hdl := diagL_len f (allM M)
  have HUA := hide (fun w hs hg => ult_any f A cap M w hs hf hg)
  have HDA := hide (fun w hs => diagO_any f A cap M w hs hf)
  obtain ⟨D, hD⟩ : ∃ D, diagL f (allM M) = D := ⟨_, rfl⟩
  obtain ⟨s, hs⟩ : ∃ s, ultC f (allM M) = s := ⟨_, rfl⟩
  obtain ⟨L, k⟩ := s
  rw [hD, hs] at hul
  rw [hs] at hue HUA
  rw [hD] at hde hdl HDA
  rw [hs, hD]
  clear hs hD
  simp only at hul hue HUA ⊢
  obtain ⟨n, hn⟩ : ∃ n, L.length = n := ⟨_, rfl⟩
  obtain ⟨m, hm⟩ : ∃ m, D.length = m := ⟨_, rfl⟩
  rw [hn] at hul HUA ⊢
  rw [hm] at hul hdl
  have HUE := hide hue
  have HDE := hide hde
  have HN := hide (show (castL L).length = n by rw [castL_len, hn])
  have HM := hide hm
  have HZ := hide (show (lefts (castL L) D).length = n by rw [lefts, List.length_zipWith, castL_len, hn, hm]; omega)
  clear hue hde hn hm
  go_enter Tryz.func9, Tryz.ntmps9
  go_wp2_with fail
  refine (HUA.out _ (HS.out.below ((Below.refl _ _).alloc (Nat.le_refl _) _)) (HG.out.below ((Below.refl _ _).alloc (Nat.le_refl _) _))).mono ?_
  rintro e w1 ⟨A', c', rfl, ho, hb, -⟩
  have t0 := kept hb (b := w.heap.size) (o := 0) (u := .int .i64 f) (by simp)
  have t1 := kept hb (b := w.heap.size) (o := 1) (u := .slice A M.length cap) (by simp)
  have H1 := hide (chain1 hb)
  have HO := hide (ho.mono (B' := w.heap.size) (by simp))
  have hA := ho.addr
  have hnc := ho.cap_le
  clear hb ho
  go_wp2_with fail
  refine (HDA.out _ (HS.out.below H1.out)).mono ?_
  rintro e w2 ⟨A2, c2, rfl, ho2, hb2⟩
  have H2 := hide (chain H1.out hb2)
  have HO1 := hide (HO.out.below hb2)
  have HO2 := hide ho2
  have HSZ := hide hb2.size
  rw [HM.out] at HO2
  rw [HM.out]
  clear hb2 ho2 t0 t1
  go_wp2_with fail
  go_loopw [16] (fun q wr => ∃ (j : Nat), j ≤ m ∧ q = .int .i64 j ∧ OwnS wr w.heap.size 3 1 A' n c' (((lefts (castL L) D).take j ++ (castL L).drop j).map encI) ∧ OwnS wr w1.heap.size 3 1 A2 m c2 (D.map encI) ∧ Below w.heap.size w wr) (fun q _ => m - (RowKit.intOf q).toNat)
  case atStart => exact ⟨0, Nat.zero_le _, rfl, by simpa using HO1.out, HO2.out, H2.out⟩
  case round =>
    obtain ⟨j, hj, rfl, hoU, hoD, hb⟩ := hrel
    by_cases hlt : j < m
    · obtain ⟨d, hd⟩ := get_of (l := D) (k := j) (by rw [HM.out]; exact hlt)
      obtain ⟨g2, hA2, hg2, hg3⟩ : ∃ g, A2 = some ⟨g, 0, none⟩ ∧ w1.heap.size ≤ g ∧ g < wr.heap.size := by
        rcases hoD.addr with ⟨_, h, _⟩ | h
        · omega
        · exact h
      subst hA2
      obtain ⟨b2, o2, hA2, -, x0⟩ := hoD.sl.i hd
      obtain ⟨rfl, rfl⟩ : g2 = b2 ∧ 0 = o2 := by simpa using hA2
      rw [Nat.zero_add] at x0
      have hd2 := HDE.out d (List.mem_of_getElem? hd)
      have hk0 : (0 : Int) ≤ (j : Int) := by omega
      have hk1 : (j : Int) < (m : Int) := by omega
      have hmc := hoD.cap_le
      have HD := hide hd
      have HJ := hide hoU
      have HK := hide hoD
      have HB := hide hb
      clear hd hoU hoD hb hA2
      by_cases hjn : j < n
      · have hk2 : (j : Int) < (n : Int) := by omega
        obtain ⟨u, hu⟩ := get_of (l := L) (k := j) (by have := HN.out; rw [castL_len] at this; omega)
        have hu2 := HUE.out u (List.mem_of_getElem? hu)
        have hcu : (castL L)[j]? = some (u : Int) := by rw [castL, List.getElem?_map, hu]; rfl
        have hz : (lefts (castL L) D)[j]? = some ((u : Int) - d) := by rw [lefts, List.getElem?_zipWith, hcu, HD.out]
        have hmg := mix_get (a := lefts (castL L) D) (by rw [HZ.out, HN.out]) hcu
        obtain ⟨g1, hA1, hg1⟩ : ∃ g, A' = some ⟨g, 0, none⟩ ∧ g < w1.heap.size := by
          rcases hA with ⟨_, h, _⟩ | ⟨g, h1, _, h2⟩
          · omega
          · exact ⟨g, h1, h2⟩
        subst hA1
        obtain ⟨b1, o1, hA1, hb1, y0⟩ := HJ.out.sl.i hmg
        obtain ⟨rfl, rfl⟩ : g1 = b1 ∧ 0 = o1 := by simpa using hA1
        rw [Nat.zero_add] at y0
        have y1 := HJ.out.frozen j
        have hset := HJ.out.set_ (i := j) (j := 0) (row := encI (u : Int)) (by rw [List.getElem?_map, hmg]; rfl) (by omega) (u := .int .i64 ((u : Int) - d)) rfl
        have HSET := hide hset
        have HMG := hide hmg
        have HZJ := hide hz
        clear hset hmg hz hcu hu hA1
        go_wp2_with fail
        have hgl : w.heap.size ≤ g1 := (HJ.out.lt g1 rfl).1
        have hfar : ∀ kk, blk (some (⟨g2, 0, none⟩ : Addr)) = some kk → kk ≠ (⟨g1, j, none⟩ : Addr).block := by
          intro kk hk
          obtain rfl : g2 = kk := by simpa [blk] using hk
          show g2 ≠ g1
          omega
        refine ⟨⟨j + 1, by omega, by go_num, ?_, HK.out.far hfar _, HB.out.setCell (p := ⟨g1, j, none⟩) hgl _⟩, by simp [RowKit.intOf]; omega⟩
        have h9 := HSET.out
        rw [Nat.mul_one, Nat.add_zero] at h9
        rw [← mix_set (by rw [HZ.out, HN.out]) HZJ.out, List.map_set]
        exact h9
      · have hk2 : ¬ (j : Int) < (n : Int) := by omega
        go_wp2_with fail
        go_roundw
        case rel => exact ⟨j + 1, by omega, by go_num, by rw [List.take_of_length_le (by rw [HZ.out]; omega), List.drop_of_length_le (by rw [HN.out]; omega)]; have := HJ.out; rw [List.take_of_length_le (by rw [HZ.out]; omega), List.drop_of_length_le (by rw [HN.out]; omega)] at this; exact this, HK.out, HB.out⟩
        case measure => simp [RowKit.intOf]; omega
    · obtain rfl : j = m := by omega
      have hlt' : ¬ (j : Int) < (j : Int) := by omega
      rw [List.take_of_length_le (by rw [HZ.out]; omega), List.drop_of_length_le (by rw [HN.out]; omega), List.append_nil] at hoU
      have HJ := hide hoU
      clear hoU hoD
      go_wp2_with fail
      go_ret2
      exact ⟨A', c', rfl, HJ.out, hb, hb⟩
end Go.Proofs.YtmfohnchnbgbaaaGreatDoor

/- The same rows of numbers. -/
namespace Go.Proofs.YtmfohnchnbgbaaaGreatDoor
open Go.RowKit

end Go.Proofs.YtmfohnchnbgbaaaGreatDoor

/- The chapter's example; and whether a triangle is of a size that is looked at. -/
namespace Go.Proofs.YtmfohnchnbgbaaaGreatDoor
open Go.RowKit

theorem sv_lit {w : World} {g : Nat} {l : List Int} (hB : Blk w g 3 (l.map fun n => Value.int .i64 n).toArray) (hm : l.length ≤ maxLen) : SV w 1 (some ⟨g, 0, none⟩) l.length l.length (l.map encI) :=
  ⟨fun i row hr => by
    rw [List.getElem?_map] at hr
    obtain ⟨x, hx, rfl⟩ := Option.map_eq_some_iff.1 hr
    refine ⟨g, 0, rfl, hB.lt, fun j u hu => ?_⟩
    match j, hu with
    | 0, hu =>
      simp [encI] at hu
      subst hu
      rw [Nat.zero_add, Nat.mul_one, Nat.add_zero, hB.cell i, List.getElem?_toArray, List.getElem?_map, hx]
      rfl, by rw [List.length_map], Nat.le_refl _, hm, fun h => by cases h⟩
def exC : List (List Int) := [[100, 150], [200]]
theorem ex_right : rightC 2000 exC = true := by decide +kernel
theorem ex_fac : facL exC = [(150, 100)] := by decide +kernel
theorem ex_ult : ultC 2000 exC = ([150, 300], 0) := by decide +kernel
theorem ex_left : lefts (castL [150, 300]) (diagL 2000 exC) = [0, 100] := by decide +kernel
theorem ex_facB {w0 w : World} {A : Option Addr} {M : List Rw} (hs : MV w A 2 2 M) (hM : allM M = exC) (hb : Below w0.heap.size w0 w) :
    Calls Tryz.prog 26 #[.agg #[.int .i64 2000, .slice A 2 2]] w fun e w' => ∃ g c', e = .returned (.tuple #[.slice (some ⟨g, 0, none⟩) 1 c', .int .i64 0]) ∧ 1 ≤ c' ∧ w'.cell? ⟨g, 0, none⟩ = some (.int .i64 150) ∧ w'.cell? ⟨g, 1, none⟩ = some (.int .i64 100) ∧ g < w'.heap.size ∧ Below w0.heap.size w0 w' ∧ Below w.heap.size w w' := by
  have hl : M.length = 2 := hs.len
  have h := factors_any 2000 A 2 M w (by rw [hl]; exact hs) (by unfold ok64; omega)
  rw [hM, ex_right, ex_fac, hl] at h
  refine h.mono ?_
  rintro e w' ⟨-, hy, h1, -⟩
  obtain ⟨A', c', rfl, ho⟩ := hy rfl
  have hc := ho.cap_le
  rcases ho.addr with ⟨_, h0, _⟩ | ⟨g, rfl, _, hg⟩
  · cases h0
  obtain ⟨b, off, hA, -, h2⟩ := ho.sl 0 (encRt (150, 100)) rfl
  obtain ⟨rfl, rfl⟩ : g = b ∧ 0 = off := by simpa using hA
  exact ⟨g, c', rfl, hc.1, h2 0 (.int .i64 150) rfl, h2 1 (.int .i64 100) rfl, hg, chain hb h1, h1⟩
theorem ex_ultB {w0 w : World} {A : Option Addr} {M : List Rw} (hs : MV w A 2 2 M) (hM : allM M = exC) (hg : Hdl w) (hb : Below w0.heap.size w0 w) :
    Calls Tryz.prog 8 #[.agg #[.int .i64 2000, .slice A 2 2]] w fun e w' => ∃ A' c', e = .returned (.tuple #[.slice A' 2 c', .int .i64 0]) ∧ SV w' 1 A' 2 c' ([150, 300].map encI) ∧ Below w0.heap.size w0 w' ∧ Below w.heap.size w w' := by
  have hl : M.length = 2 := hs.len
  have h := ult_any 2000 A 2 M w (by rw [hl]; exact hs) (by unfold ok64; omega) hg
  rw [hM, ex_ult, hl] at h
  refine h.mono ?_
  rintro e w' ⟨A', c', rfl, ho, h1, -⟩
  exact ⟨A', c', rfl, ho.sv, chain hb h1, h1⟩
theorem ex_leftB {w0 w : World} {A : Option Addr} {M : List Rw} (hs : MV w A 2 2 M) (hM : allM M = exC) (hg : Hdl w) (hb : Below w0.heap.size w0 w) :
    Calls Tryz.prog 9 #[.agg #[.int .i64 2000, .slice A 2 2]] w fun e w' => ∃ A' c', e = .returned (.tuple #[.slice A' 2 c', .int .i64 0]) ∧ SV w' 1 A' 2 c' ([0, 100].map encI) ∧ Below w0.heap.size w0 w' ∧ Below w.heap.size w w' := by
  have hl : M.length = 2 := hs.len
  have h := left_any 2000 A 2 M w (by rw [hl]; exact hs) (by unfold ok64; omega) hg
  rw [hM, ex_ult] at h
  simp only at h
  rw [ex_left, hl] at h
  refine h.mono ?_
  rintro e w' ⟨A', c', rfl, ho, h1, -⟩
  exact ⟨A', c', rfl, ho.sv, chain hb h1, h1⟩

end Go.Proofs.YtmfohnchnbgbaaaGreatDoor

/- Openers at the claims of this chapter: the premise on reflectlite's own variable, opened; a world that meets it. -/
namespace Go.Proofs.YtmfohnchnbgbaaaGreatDoor
open Go.ChangeShapes Go.WideShapes Go.RowKit

theorem et : Tryz.prog.globalNamed "errors.errorType" = some 0 := by kernel_rfl
theorem rt : (Tryz.prog.cutTypes.find? (·.1 == "internal/reflectlite.rtype")).map (·.2) = some 249 := by kernel_rfl
theorem tsize : ∃ n, Tryz.prog.types.size = n ∧ ((List.range n).filter fun t => Tryz.prog.rowNamed t [101, 114, 114, 111, 114]) = [90] := ⟨_, rfl, by kernel_rfl⟩
theorem handle_of_laid {W : World} (h : laidMetH Tryz.prog [("errors.errorType", Rows.laid_errors_errorType)] W) : Hdl W := by
  have h' : laidMet Tryz.prog [] W ∧ handlesMet Tryz.prog [("errors.errorType", Rows.laid_errors_errorType)] W := h
  obtain ⟨name, u, ty, e1, e2, e3, e4, e5⟩ := h'.2 _ (List.mem_singleton.2 rfl)
  have en : name = [101, 114, 114, 111, 114] := (Option.some.inj e1).symm
  subst en
  obtain rfl := Option.some.inj (rt.symm.trans e2)
  obtain ⟨n, hn, hone⟩ := tsize
  have hm : ty ∈ (List.range n).filter fun t => Tryz.prog.rowNamed t [101, 114, 114, 111, 114] := List.mem_filter.2 ⟨List.mem_range.2 (by rw [← hn]; exact e3), e4⟩
  rw [hone] at hm
  obtain rfl := List.mem_singleton.1 hm
  have hh : typeHandle Tryz.prog 90 = .pointer (some ⟨3, 90, none⟩) := by kernel_rfl
  rw [hh] at e5
  unfold Hdl
  simpa using World.var?_cell et e5 0
noncomputable def laidWorld (os : Os) : World :=
  let w0 := World.holding Tryz.prog os ⟨#[], #[], []⟩
  { w0 with heap := w0.heap.modify 0 fun
      | .cells _ t frozen => .cells #[.iface 249 (.agg #[.pointer (some ⟨3, 90, none⟩)])] t frozen
      | o => o }
theorem laidWorld_met (os : Os) (args : Array Value) : laidMetH Tryz.prog [("errors.errorType", Rows.laid_errors_errorType)] ((laidWorld os).forCall (fun _ _ => 0) ⟨#[], args, []⟩).memory :=
  laidMetH_of_parts (laidMet_nil _ _) (by kernel_rfl)
end Go.Proofs.YtmfohnchnbgbaaaGreatDoor

/- What years become: the document's. -/
namespace Go.Proofs.YtmfohnchnbgbaaaGreatDoor
open Go.RowKit

end Go.Proofs.YtmfohnchnbgbaaaGreatDoor

/- What is still to come: the document's. -/
namespace Go.Proofs.YtmfohnchnbgbaaaGreatDoor
open Go.RowKit

theorem ultC_full {f : Int} {c : List (List Int)} (h : 0 < (ultC f c).1.length) : rightC f c = true ∧ (ultC f c).1.length = c.length ∧ diagL f c = c.map lastI := by
  have hr : rightC f c = true := by
    cases hr : rightC f c with
    | true => rfl
    | false => rw [ultC, if_neg (by rw [hr]; decide)] at h; simp at h
  refine ⟨hr, ?_, by rw [diagL, if_pos hr]⟩
  rw [ultC, if_pos hr] at h ⊢
  rcases allN_code (facL c) c with h1 | ⟨_, h1⟩
  · exact allN_len h1
  · rw [h1] at h; simp at h

end Go.Proofs.YtmfohnchnbgbaaaGreatDoor

/- Where no row falls: each factor is one at least, and nothing that is left is below 0. -/
namespace Go.Proofs.YtmfohnchnbgbaaaGreatDoor
open Go.RowKit

theorem ultC_code (f : Int) (c : List (List Int)) (hr : rightC f c = true) : ((ultC f c).2 = 0 ∧ (ultC f c).1.length = c.length) ∨ ((ultC f c).2 = 5 ∧ (ultC f c).1 = []) := by
  rw [ultC, if_pos hr]
  rcases allN_code (facL c) c with h | h
  · exact .inl ⟨h, allN_len h⟩
  · exact .inr h
/-- A row does not fall. -/
def Mono (l : List Int) : Prop := ∀ (k : Nat) (v u : Int), l[k]? = some v → l[k + 1]? = some u → v ≤ u
theorem celN_mono {l : List Int} (hm : Mono l) (h : ∀ v ∈ l, 0 ≤ v ∧ v ≤ 100000000000000000) {k : Nat} (hk : k + 1 < l.length) : celN l k ≤ celN l (k + 1) := by
  obtain ⟨v, hv⟩ := get_of (l := l) (k := k) (by omega)
  obtain ⟨u, hu⟩ := get_of (l := l) (k := k + 1) hk
  have h1 := celN_eq h hv
  have h2 := celN_eq h hu
  have h3 := hm k v u hv hu
  omega
theorem colS_mono (k : Nat) : ∀ {c : List (List Int)}, (∀ l ∈ c, Mono l) → (∀ l ∈ c, ∀ v ∈ l, 0 ≤ v ∧ v ≤ 100000000000000000) → (colS k c).2 ≤ (colS k c).1
  | [], _, _ => by simp [colS]
  | l :: r, hm, h => by
    have ih := colS_mono k (c := r) (fun l hl => hm l (by simp [hl])) (fun l hl => h l (by simp [hl]))
    simp only [colS]
    split
    · rename_i hk
      have := celN_mono (hm l (by simp)) (h l (by simp)) hk
      simp only
      omega
    · exact ih
def Up (F : List (Nat × Nat)) : Prop := ∀ x ∈ F, 1 ≤ x.2 ∧ x.2 ≤ x.1
theorem facL_up {c : List (List Int)} (hm : ∀ l ∈ c, Mono l) (h : ∀ l ∈ c, ∀ v ∈ l, 0 ≤ v ∧ v ≤ 100000000000000000) : Up (facL c) := fun x hx => by
  obtain ⟨k, _, rfl⟩ := List.mem_map.1 hx
  rw [facK]
  have := colS_mono k hm h
  split
  · exact ⟨Nat.le_refl _, Nat.le_refl _⟩
  · rename_i h0
    exact ⟨by omega, this⟩
theorem evQ_up {a n d : Nat} (h1 : 1 ≤ d) (h2 : d ≤ n) (h0 : evE a n d = 0) : a ≤ evQ a n d := by
  unfold evE at h0
  unfold evQ
  split at h0
  · rename_i h
    rw [if_pos h, evN]
    have hq : a ≤ a * n / d := by
      rw [Nat.le_div_iff_mul_le (by omega)]
      exact Nat.mul_le_mul_left a h2
    exact Nat.le_trans hq (upN_ge _ _ _).1
  · cases h0
theorem grow_up : ∀ {F : List (Nat × Nat)} {a : Nat}, Up F → (growN a F).2 = 0 → a ≤ (growN a F).1
  | [], a, _, _ => Nat.le_refl _
  | x :: r, a, hF, h => by
    rw [growN] at h ⊢
    split at h
    · rename_i h0
      rw [if_pos h0]
      obtain ⟨g1, g2⟩ := hF x (by simp)
      exact Nat.le_trans (evQ_up g1 g2 h0) (grow_up (fun y hy => hF y (by simp [hy])) h)
    · rename_i h0
      exact absurd h h0
theorem all_up {F : List (Nat × Nat)} (hF : Up F) : ∀ {c : List (List Int)}, (∀ l ∈ c, 1 ≤ l.length) → (∀ l ∈ c, ∀ v ∈ l, 0 ≤ v ∧ v ≤ 100000000000000000) → ∀ z ∈ lefts (castL (allN F c).1) (c.map lastI), 0 ≤ z
  | [], _, _, z, hz => by simp [allN, castL, lefts] at hz
  | l :: r, hl, h, z, hz => by
    simp only [allN] at hz
    split at hz
    · rename_i h1
      split at hz
      · simp only [lefts, castL, List.map_cons, List.zipWith_cons_cons] at hz
        rcases List.mem_cons.1 hz with rfl | hz
        · have hlen := hl l (by simp)
          obtain ⟨v, hv⟩ := get_of (l := l) (k := l.length - 1) (by omega)
          have h2 := celN_eq (h l (by simp)) hv
          have h3 := grow_up (fun x hx => hF x (List.mem_of_mem_drop hx)) h1
          have h4 : lastI l = v := by rw [lastI, List.getLast?_eq_getElem?, hv]; rfl
          rw [h4]
          omega
        · exact all_up hF (fun l hl' => hl l (by simp [hl'])) (fun l hl' => h l (by simp [hl'])) z hz
      · simp [lefts, castL] at hz
    · simp [lefts, castL] at hz
theorem left_up {f : Int} {c : List (List Int)} (hr : rightC f c = true) (hm : ∀ l ∈ c, Mono l) : ∀ z ∈ lefts (castL (ultC f c).1) (diagL f c), 0 ≤ z := by
  rw [ultC, if_pos hr, diagL, if_pos hr]
  have h := (right_okC hr).2
  refine all_up (facL_up hm h) (fun l hl => ?_) h
  obtain ⟨i, hi⟩ := List.getElem?_of_mem hl
  have := (right_row hr hi).1
  have := lt_of_get hi
  omega
end Go.Proofs.YtmfohnchnbgbaaaGreatDoor

/- Years that are each so many times the first one's: what they become. -/
namespace Go.Proofs.YtmfohnchnbgbaaaGreatDoor
open Go.RowKit

def nthN (r : List Nat) (k : Nat) : Nat := r[k]?.getD 0
/-- The rows: of each year the beginning of r, m times. -/
def alikeC (r : List Nat) : List Nat → List (List Int)
  | [] => []
  | m :: ms => (r.take (ms.length + 1)).map (fun x => ((m * x : Nat) : Int)) :: alikeC r ms
theorem alikeC_len (r : List Nat) : ∀ ms, (alikeC r ms).length = ms.length
  | [] => rfl
  | m :: ms => by simp [alikeC, alikeC_len r ms]
theorem celN_alike {r : List Nat} {m n k : Nat} (hk : k < n) (hr : k < r.length) : celN ((r.take n).map (fun x => ((m * x : Nat) : Int))) k = m * nthN r k := by
  obtain ⟨x, hx⟩ := get_of hr
  rw [celN, List.getElem?_map, List.getElem?_take, if_pos hk, nthN, hx]
  simp only [Option.map_some, Option.getD_some]
  exact Int.toNat_natCast _
theorem colS_alike {r : List Nat} (k : Nat) (hk : k + 1 < r.length) : ∀ ms : List Nat, ms.length ≤ r.length → ∃ S, colS k (alikeC r ms) = (S * nthN r (k + 1), S * nthN r k) ∧ ((∀ m ∈ ms, 1 ≤ m) → k + 1 < ms.length → 1 ≤ S)
  | [], _ => ⟨0, by simp [alikeC, colS], fun _ h => by simp at h⟩
  | m :: ms, h => by
    simp only [List.length_cons] at h
    obtain ⟨S, hS, hp⟩ := colS_alike k hk ms (by omega)
    simp only [alikeC, colS, hS]
    have hl : ((r.take (ms.length + 1)).map (fun x => ((m * x : Nat) : Int))).length = ms.length + 1 := by rw [List.length_map, List.length_take]; omega
    rw [hl]
    split
    · rename_i hlt
      rw [celN_alike (by omega) hk, celN_alike (by omega) (by omega)]
      exact ⟨m + S, by rw [Nat.add_mul, Nat.add_mul], fun hm _ => by have := hm m (by simp); omega⟩
    · rename_i hlt
      exact ⟨S, rfl, fun _ h2 => by simp only [List.length_cons] at h2; omega⟩
theorem ev_exact {a n d q : Nat} (hd : 0 < d) (h : a * n = q * d) (hq : q ≤ 4000000000000000000) : evE a n d = 0 ∧ evQ a n d = q := by
  have h1 : evN a n d = q := by
    rw [evN, h, Nat.mul_div_cancel _ hd, Nat.mul_mod_left, upN, if_neg (by omega)]
  rw [evE, evQ, h1, if_pos hq, if_pos hq]
  exact ⟨rfl, rfl⟩
/-- The factors are those of r. -/
def Fits_Lad (r : List Nat) (F : List (Nat × Nat)) : Prop := F.length + 1 = r.length ∧ ∀ (k n d : Nat), F[k]? = some (n, d) → 0 < d ∧ n * nthN r k = nthN r (k + 1) * d
theorem grow_alike {r : List Nat} {F : List (Nat × Nat)} {m : Nat} (hF : Fits_Lad r F) (hb : ∀ k, m * nthN r k ≤ 4000000000000000000) : ∀ (t k : Nat), k + t = F.length → growN (m * nthN r k) (F.drop k) = (m * nthN r (r.length - 1), 0)
  | 0, k, h => by
    have : k = r.length - 1 := by have := hF.1; omega
    rw [List.drop_of_length_le (by omega), growN, this]
  | t + 1, k, h => by
    obtain ⟨⟨n, d⟩, hx⟩ := get_of (l := F) (k := k) (by omega)
    obtain ⟨hd, hc⟩ := hF.2 k n d hx
    obtain ⟨e1, e2⟩ := ev_exact (a := m * nthN r k) (n := n) (q := m * nthN r (k + 1)) hd (by rw [Nat.mul_assoc, Nat.mul_comm (nthN r k) n, hc, Nat.mul_assoc]) (hb (k + 1))
    rw [drop_of hx, growN]
    simp only [e1, e2, if_pos]
    exact grow_alike hF hb t (k + 1) (by omega)
theorem all_alike {r : List Nat} {F : List (Nat × Nat)} (hF : Fits_Lad r F) : ∀ ms : List Nat, ms.length ≤ r.length → (∀ m ∈ ms, ∀ k, m * nthN r k ≤ 4000000000000000000) → allN F (alikeC r ms) = (ms.map (fun m => m * nthN r (r.length - 1)), 0)
  | [], _, _ => by simp [alikeC, allN]
  | m :: ms, h, hb => by
    simp only [List.length_cons] at h
    have hl : ((r.take (ms.length + 1)).map (fun x => ((m * x : Nat) : Int))).length = ms.length + 1 := by rw [List.length_map, List.length_take]; omega
    have hg := grow_alike hF (hb m (by simp)) (F.length - ms.length) ms.length (by have := hF.1; omega)
    have ih := all_alike hF ms (by omega) (fun x hx => hb x (by simp [hx]))
    simp only [alikeC, allN]
    rw [hl, Nat.add_sub_cancel, celN_alike (by omega) (by omega), hg, ih]
    simp
theorem fits_alike {r ms : List Nat} (hn : ms.length = r.length) (h1 : 1 ≤ r.length) (h : (∀ m ∈ ms, 1 ≤ m) ∧ (∀ k, k < r.length → 1 ≤ nthN r k) ∨ (∀ k, k < r.length → nthN r k = 1)) : Fits_Lad r (facL (alikeC r ms)) := by
  refine ⟨by rw [facL_len, alikeC_len, hn]; omega, fun k n d hx => ?_⟩
  have hk := lt_of_get hx
  rw [facL_len, alikeC_len, hn] at hk
  rw [facL_get (by rw [alikeC_len, hn]; exact hk)] at hx
  obtain ⟨S, hS, hp⟩ := colS_alike (r := r) k (by omega) ms (by omega)
  rw [facK, hS] at hx
  simp only [Option.some.injEq] at hx
  split at hx
  · rename_i h0
    obtain ⟨rfl, rfl⟩ : 1 = n ∧ 1 = d := by simpa using hx
    rcases h with ⟨ha, hb⟩ | hc
    · have := Nat.mul_pos (hp ha (by omega)) (hb k (by omega))
      omega
    · rw [hc k (by omega), hc (k + 1) (by omega)]
      exact ⟨Nat.one_pos, rfl⟩
  · rename_i h0
    obtain ⟨rfl, rfl⟩ : S * nthN r (k + 1) = n ∧ S * nthN r k = d := by simpa using hx
    exact ⟨Nat.pos_of_ne_zero h0, by rw [Nat.mul_comm S (nthN r (k + 1)), Nat.mul_assoc]⟩
theorem alikeC_get (r : List Nat) : ∀ (ms : List Nat) (i m : Nat), ms[i]? = some m → (alikeC r ms)[i]? = some ((r.take (ms.length - i)).map (fun x => ((m * x : Nat) : Int)))
  | [], i, m, h => by simp at h
  | a :: ms, 0, m, h => by simp at h; subst h; simp [alikeC]
  | a :: ms, i + 1, m, h => by
    rw [alikeC, List.getElem?_cons_succ, alikeC_get r ms i m (by simpa using h), List.length_cons, Nat.add_sub_add_right]
theorem right_alike {r ms : List Nat} {f : Int} (hn : ms.length = r.length) (h1 : 1 ≤ r.length) (h20 : r.length ≤ 20) (hf : 1601 ≤ f ∧ f ≤ 2381) (hb : ∀ m ∈ ms, ∀ x ∈ r, m * x ≤ 100000000000000000) : rightC f (alikeC r ms) = true := by
  rw [rightC, Bool.and_eq_true, alikeC_len, hn]
  refine ⟨by simp only [boundsB, decide_eq_true_eq]; omega, ?_⟩
  rw [rowsB_iff]
  intro i l hl
  have hi := lt_of_get hl
  rw [alikeC_len] at hi
  obtain ⟨m, hm⟩ := get_of hi
  rw [alikeC_get r ms i m hm] at hl
  simp only [Option.some.injEq] at hl
  subst hl
  simp only [goodRow, Bool.and_eq_true, decide_eq_true_eq, List.all_eq_true, okV]
  refine ⟨by rw [List.length_map, List.length_take, hn]; omega, fun v hv => ?_⟩
  obtain ⟨x, hx, rfl⟩ := List.mem_map.1 hv
  have h2 := hb m (List.mem_of_getElem? hm) x (List.mem_of_mem_take hx)
  omega
theorem nthN_le {r : List Nat} {m b : Nat} (h : ∀ x ∈ r, m * x ≤ b) (k : Nat) : m * nthN r k ≤ b := by
  rw [nthN]
  rcases Nat.lt_or_ge k r.length with hk | hk
  · obtain ⟨x, hx⟩ := get_of hk
    rw [hx]
    exact h x (List.mem_of_getElem? hx)
  · rw [List.getElem?_eq_none hk]
    simp
/-- What such years become. -/
theorem ult_alike {r ms : List Nat} {f : Int} (hn : ms.length = r.length) (h1 : 1 ≤ r.length) (h20 : r.length ≤ 20) (hf : 1601 ≤ f ∧ f ≤ 2381) (hb : ∀ m ∈ ms, ∀ x ∈ r, m * x ≤ 100000000000000000)
    (h : (∀ m ∈ ms, 1 ≤ m) ∧ (∀ k, k < r.length → 1 ≤ nthN r k) ∨ (∀ k, k < r.length → nthN r k = 1)) :
    ultC f (alikeC r ms) = (ms.map (fun m => m * nthN r (r.length - 1)), 0) := by
  rw [ultC, if_pos (right_alike hn h1 h20 hf hb)]
  exact all_alike (fits_alike hn h1 h) ms (by omega) (fun m hm k => Nat.le_trans (nthN_le (hb m hm) k) (by omega))
/-- What is left of years that do not change. -/
theorem diag_still {n : Nat} : ∀ ms : List Nat, ms.length ≤ n → (alikeC (List.replicate n 1) ms).map lastI = castL ms
  | [], _ => rfl
  | m :: ms, h => by
    simp only [List.length_cons] at h
    rw [alikeC, List.map_cons, diag_still ms (by omega), castL, castL, List.map_cons]
    congr 1
    rw [List.take_replicate, Nat.min_eq_left (by omega), List.map_replicate, Nat.mul_one, lastI, List.getLast?_replicate]
    simp
theorem nth_one {n k : Nat} (h : k < n) : nthN (List.replicate n 1) k = 1 := by
  rw [nthN, List.getElem?_replicate, if_pos h]
  rfl
theorem still_all {ms : List Nat} {f : Int} (h1 : 1 ≤ ms.length) (h20 : ms.length ≤ 20) (hf : 1601 ≤ f ∧ f ≤ 2381) (hb : ∀ m ∈ ms, m ≤ 100000000000000000) :
    ultC f (alikeC (List.replicate ms.length 1) ms) = (ms, 0) ∧ lefts (castL ms) (diagL f (alikeC (List.replicate ms.length 1) ms)) = ms.map (fun _ => 0) := by
  have hl : (List.replicate ms.length 1).length = ms.length := List.length_replicate
  have hb2 : ∀ m ∈ ms, ∀ x ∈ List.replicate ms.length 1, m * x ≤ 100000000000000000 := fun m hm x hx => by
    rw [List.eq_of_mem_replicate hx, Nat.mul_one]; exact hb m hm
  have hu := ult_alike (r := List.replicate ms.length 1) (ms := ms) (f := f) hl.symm (by omega) (by omega) hf hb2 (.inr (fun k hk => nth_one (by omega)))
  have hr := right_alike (r := List.replicate ms.length 1) (ms := ms) (f := f) hl.symm (by omega) (by omega) hf hb2
  refine ⟨?_, ?_⟩
  · rw [hu, hl, nth_one (by omega)]
    simp
  · rw [diagL, if_pos hr, diag_still ms (Nat.le_refl _), lefts, castL, List.zipWith_map, List.zipWith_self]
    simp
end Go.Proofs.YtmfohnchnbgbaaaGreatDoor

/- Years that are paid for alike: the triangle of their rows, what it becomes, what is left. -/
namespace Go.Proofs.YtmfohnchnbgbaaaGreatDoor
open Go.RowKit

theorem yr_in (y d : Int) (h1 : 1601 ≤ y) (h2 : y ≤ 2400) (hd : 0 ≤ d) (hd2 : d < 365) : yrV (aheadI y + 1 + d) = y ∧ 1 ≤ aheadI y + 1 + d ∧ aheadI y + 1 + d ≤ 292194 := by
  have h0 : 0 ≤ aheadI y := by unfold aheadI; omega
  have hs := leap_of_ahead y
  have hl := leap_01 y
  have hm : aheadI (y + 1) ≤ 292194 := by unfold aheadI; omega
  have hn1 : 1 ≤ aheadI y + 1 + d := by omega
  have hn2 : aheadI y + 1 + d ≤ 292194 := by omega
  refine ⟨?_, hn1, hn2⟩
  rw [yrV, if_pos ⟨hn1, hn2⟩]
  obtain ⟨a1, a2, a3, a4⟩ := yearI_ok _ hn1 hn2
  obtain ⟨Y, hY⟩ : ∃ Y, yearI (aheadI y + 1 + d) = Y := ⟨_, rfl⟩
  rw [hY] at a1 a2 a3 a4 ⊢
  rcases (show Y < y ∨ Y = y ∨ y < Y by omega) with h | h | h
  · exfalso
    rcases (show Y + 1 = y ∨ Y + 1 < y by omega) with e | e
    · rw [e] at a4; omega
    · have := ahead_lt (y := Y + 1) (z := y) (by omega) e
      omega
  · exact h
  · exfalso
    rcases (show y + 1 = Y ∨ y + 1 < Y by omega) with e | e
    · rw [← e] at a3; omega
    · have := ahead_lt (y := y + 1) (z := Y) (by omega) e
      omega

/-- What the first so many amounts are together. -/
def sumT (L : List Nat) (t : Nat) : Nat := (L.take t).sum
theorem sumT_succ {L : List Nat} {t m : Nat} (h : L[t]? = some m) : sumT L (t + 1) = sumT L t + m := by
  rw [sumT, take_of h, List.sum_append]; simp [sumT]
theorem sumT_le {L : List Nat} {b : Nat} (h : ∀ m ∈ L, m ≤ b) (t : Nat) : sumT L t ≤ b * L.length := by
  have key : ∀ (M : List Nat), (∀ m ∈ M, m ≤ b) → M.sum ≤ b * M.length := by
    intro M
    induction M with
    | nil => simp
    | cons a r ih =>
      intro hM
      have h1 := hM a (by simp)
      have h2 := ih (fun m hm => hM m (by simp [hm]))
      rw [List.sum_cons, List.length_cons, Nat.mul_add]; omega
  have h1 := key (L.take t) (fun m hm => h m (List.mem_of_mem_take hm))
  have h2 : (L.take t).length ≤ L.length := by rw [List.length_take]; omega
  exact Nat.le_trans h1 (Nat.mul_le_mul_left _ h2)
/-- One row of a year's payments; all of one year of losses; all rows so far. -/
def rowX (y : Int) (L : List Nat) (i k : Nat) : R3 := ⟨aheadI (y + i) + 1 + 7 * i, aheadI (y + i + k) + 1 + 200 + k, (nthN L k : Nat)⟩
def rowYI (y : Int) (L : List Nat) (i k : Nat) : List R3 := (List.range k).map (rowX y L i)
def rowsY (y : Int) (L : List Nat) (i k : Nat) : List R3 := ((List.range i).map fun a => rowYI y L a (L.length - a)).flatten ++ rowYI y L i k
theorem rowsY_snoc (y : Int) (L : List Nat) (i k : Nat) : rowsY y L i (k + 1) = rowsY y L i k ++ [rowX y L i k] := by
  rw [rowsY, rowsY, List.append_assoc]; congr 1
  rw [rowYI, rowYI, List.range_succ, List.map_append]; rfl
theorem rowsY_next (y : Int) (L : List Nat) (i : Nat) : rowsY y L (i + 1) 0 = rowsY y L i (L.length - i) := by
  rw [rowsY, rowsY, List.range_succ, List.map_append, List.flatten_append]
  simp [rowYI]
theorem rowsY_mem {y : Int} {L : List Nat} {i k : Nat} (hi : i < L.length ∧ k ≤ L.length - i ∨ i = L.length ∧ k = 0) {x : R3} (h : x ∈ rowsY y L i k) : ∃ a b, a + b < L.length ∧ x = rowX y L a b := by
  rw [rowsY, List.mem_append] at h
  rcases h with h | h
  · obtain ⟨r, hr, hx⟩ := List.mem_flatten.1 h
    obtain ⟨a, ha, rfl⟩ := List.mem_map.1 hr
    obtain ⟨b, hb, rfl⟩ := List.mem_map.1 hx
    have ha := List.mem_range.1 ha
    have hb := List.mem_range.1 hb
    exact ⟨a, b, by omega, rfl⟩
  · obtain ⟨b, hb, rfl⟩ := List.mem_map.1 h
    have hb := List.mem_range.1 hb
    exact ⟨i, b, by omega, rfl⟩
theorem rowX_yr {y : Int} {L : List Nat} {a b : Nat} (hab : a + b < L.length) (h20 : L.length ≤ 20) (hy : 1601 ≤ y ∧ y ≤ 2300) :
    yrV (rowX y L a b).a = y + a ∧ yrV (rowX y L a b).b = y + a + b ∧ (1 ≤ (rowX y L a b).a ∧ (rowX y L a b).a ≤ 292194) ∧ (1 ≤ (rowX y L a b).b ∧ (rowX y L a b).b ≤ 292194) ∧ (rowX y L a b).a ≤ (rowX y L a b).b := by
  have h1 := yr_in (y + a) (7 * a) (by omega) (by omega) (by omega) (by omega)
  have h2 := yr_in (y + a + b) (200 + b) (by omega) (by omega) (by omega) (by omega)
  rw [show aheadI (y + a + b) + 1 + (200 + (b : Int)) = aheadI (y + a + b) + 1 + 200 + b by omega] at h2
  have h3 : aheadI (y + a) ≤ aheadI (y + a + b) := by
    rcases (show b = 0 ∨ 0 < b by omega) with h | h
    · subst h; simp
    · have := ahead_lt (y := y + a) (z := y + a + b) (by omega) (by omega)
      omega
  refine ⟨h1.1, h2.1, h1.2, h2.2, ?_⟩
  simp only [rowX]; omega
theorem rowX_chk {y : Int} {L : List Nat} {a b : Nat} (hab : a + b < L.length) (h20 : L.length ≤ 20) (hy : 1601 ≤ y ∧ y ≤ 2300) (hb : ∀ m ∈ L, m ≤ 4294967296) : chk (rowX y L a b) = 0 := by
  obtain ⟨-, -, h3, h4, h5⟩ := rowX_yr hab h20 hy
  obtain ⟨m, hm⟩ := get_of (l := L) (k := b) (by omega)
  have hm2 := hb m (List.mem_of_getElem? hm)
  have h6 : (rowX y L a b).m = (m : Int) := by simp [rowX, nthN, hm]
  unfold chk
  rw [if_neg (by omega), if_neg (by omega)]

/-- The cells so far. -/
def cellY (L : List Nat) (i k a j : Nat) : Int := if a < i then (sumT L (j + 1) : Nat) else if a = i then (sumT L (min (j + 1) k) : Nat) else 0
def cY (L : List Nat) (i k : Nat) : List (List Int) := (List.range L.length).map fun a => (List.range (L.length - a)).map (cellY L i k a)
theorem cY_get {L : List Nat} {i k a : Nat} (h : a < L.length) : (cY L i k)[a]? = some ((List.range (L.length - a)).map (cellY L i k a)) := by simp [cY, h]
theorem cY_len (L : List Nat) (i k : Nat) : (cY L i k).length = L.length := by simp [cY]
theorem cY_zero (L : List Nat) : zerosT L.length = cY L 0 0 := by
  refine List.map_congr_left fun a _ => ?_
  refine List.ext_getElem? fun j => ?_
  rw [List.getElem?_replicate, List.getElem?_map]
  split
  · rename_i h
    rw [List.getElem?_range h]
    simp [cellY, sumT]
  · rename_i h
    rw [List.getElem?_eq_none (by simp; omega)]; rfl
theorem cY_next (L : List Nat) (i : Nat) : cY L i (L.length - i) = cY L (i + 1) 0 := by
  refine List.map_congr_left fun a ha => List.map_congr_left fun j hj => ?_
  have hj := List.mem_range.1 hj
  unfold cellY
  rcases (show a < i ∨ a = i ∨ i < a by omega) with h | h | h
  · rw [if_pos h, if_pos (by omega)]
  · subst h
    rw [if_neg (by omega), if_pos rfl, if_pos (by omega), Nat.min_eq_left (by omega)]
  · rw [if_neg (by omega), if_neg (by omega), if_neg (by omega)]
    split
    · simp [sumT]
    · rfl
theorem cY_row {y : Int} {L : List Nat} {i k : Nat} (hik : i + k < L.length) (h20 : L.length ≤ 20) (hy : 1601 ≤ y ∧ y ≤ 2300) :
    idxO y (rowX y L i k) = i ∧ rowO y (cY L i k) (rowX y L i k) = (List.range (L.length - i)).map (cellY L i (k + 1) i) := by
  obtain ⟨h1, h2, -⟩ := rowX_yr hik h20 hy
  have hi : idxO y (rowX y L i k) = i := by rw [idxO, h1]; omega
  obtain ⟨m, hm⟩ := get_of (l := L) (k := k) (by omega)
  have h6 : (rowX y L i k).m = (m : Int) := by simp [rowX, nthN, hm]
  refine ⟨hi, ?_⟩
  have hd : devO (rowX y L i k) = (k : Int) := by rw [devO, h1, h2]; omega
  rw [rowO, hi, hd, h6, List.getD_eq_getElem?_getD, cY_get (by omega), Option.getD_some]
  refine List.ext_getElem? fun j => ?_
  rw [moreL, List.getElem?_mapIdx, List.getElem?_map, List.getElem?_map]
  rcases Nat.lt_or_ge j (L.length - i) with hj | hj
  · rw [List.getElem?_range hj]
    simp only [Option.map_some, Option.some.injEq, moreF, cellY, Nat.lt_irrefl, if_false, if_true]
    rcases Nat.lt_or_ge j k with h | h
    · rw [if_neg (by omega), Nat.min_eq_left (by omega), Nat.min_eq_left (by omega)]
    · rw [if_pos (by omega), Nat.min_eq_right (by omega), Nat.min_eq_right (by omega), sumT_succ hm]
      omega
  · rw [List.getElem?_eq_none (by simpa using hj)]; rfl
theorem cY_set {L : List Nat} {i k : Nat} (hik : i + k < L.length) : (cY L i k).set i ((List.range (L.length - i)).map (cellY L i (k + 1) i)) = cY L i (k + 1) := by
  refine List.ext_getElem? fun a => ?_
  rw [List.getElem?_set, cY_len]
  rcases Nat.lt_or_ge a L.length with ha | ha
  · by_cases h : i = a
    · subst h
      rw [if_pos rfl, if_pos ha, cY_get ha]
    · rw [if_neg h, cY_get ha, cY_get ha]
      congr 1
      refine List.map_congr_left fun j _ => ?_
      unfold cellY
      rcases (show a < i ∨ i < a by omega) with h | h
      · rw [if_pos h, if_pos h]
      · rw [if_neg (by omega), if_neg (by omega), if_neg (by omega), if_neg (by omega)]
  · rw [if_neg (by omega), List.getElem?_eq_none (by rw [cY_len]; exact ha), List.getElem?_eq_none (by rw [cY_len]; exact ha)]
theorem cell_cap {L : List Nat} (h20 : L.length ≤ 20) (hb : ∀ m ∈ L, m ≤ 4294967296) (i k a j : Nat) : 0 ≤ cellY L i k a j ∧ cellY L i k a j ≤ 100000000000000000 := by
  have hs : ∀ t, sumT L t ≤ 4294967296 * 20 := fun t => Nat.le_trans (sumT_le hb t) (Nat.mul_le_mul_left _ h20)
  unfold cellY
  split
  · have := hs (j + 1); omega
  · split
    · have := hs (min (j + 1) k); omega
    · omega
theorem put_rows {y : Int} {L : List Nat} (h20 : L.length ≤ 20) (hy : 1601 ≤ y ∧ y ≤ 2300) (hb : ∀ m ∈ L, m ≤ 4294967296) :
    ∀ i, i ≤ L.length → ∀ k, k ≤ L.length - i → putAll y (zerosT L.length) (rowsY y L i k) = some (cY L i k) := by
  intro i
  induction i with
  | zero =>
    intro _ k
    induction k with
    | zero => intro _; rw [rowsY, cY_zero]; rfl
    | succ k ih =>
      intro hk
      obtain ⟨h1, h2⟩ := cY_row (y := y) (L := L) (i := 0) (k := k) (by omega) h20 hy
      rw [rowsY_snoc, putAll_snoc, ih (by omega), Option.bind_some, h2, h1, if_pos, cY_set (by omega)]
      rw [capB, List.all_eq_true]
      intro v hv
      obtain ⟨j, -, rfl⟩ := List.mem_map.1 hv
      simpa using (cell_cap h20 hb 0 (k + 1) 0 j).2
  | succ i ihi =>
    intro hi k
    induction k with
    | zero => intro _; rw [rowsY_next, ← cY_next]; exact ihi (by omega) _ (Nat.le_refl _)
    | succ k ih =>
      intro hk
      obtain ⟨h1, h2⟩ := cY_row (y := y) (L := L) (i := i + 1) (k := k) (by omega) h20 hy
      rw [rowsY_snoc, putAll_snoc, ih (by omega), Option.bind_some, h2, h1, if_pos, cY_set (by omega)]
      rw [capB, List.all_eq_true]
      intro v hv
      obtain ⟨j, -, rfl⟩ := List.mem_map.1 hv
      simpa using (cell_cap h20 hb (i + 1) (k + 1) (i + 1) j).2
def preS (L : List Nat) : List Nat := (List.range L.length).map fun j => sumT L (j + 1)
theorem preS_len (L : List Nat) : (preS L).length = L.length := by simp [preS]
theorem preS_nth {L : List Nat} {k : Nat} (h : k < L.length) : nthN (preS L) k = sumT L (k + 1) := by simp [nthN, preS, h]
theorem cY_alike (L : List Nat) : cY L L.length 0 = alikeC (preS L) (List.replicate L.length 1) := by
  refine List.ext_getElem? fun a => ?_
  rcases Nat.lt_or_ge a L.length with ha | ha
  · rw [cY_get ha, alikeC_get (preS L) _ a 1 (by rw [List.getElem?_replicate, if_pos ha])]
    congr 1
    rw [List.length_replicate]
    refine List.ext_getElem? fun j => ?_
    rw [List.getElem?_map, List.getElem?_map, List.getElem?_take]
    rcases Nat.lt_or_ge j (L.length - a) with hj | hj
    · rw [if_pos hj, List.getElem?_range hj, preS, List.getElem?_map, List.getElem?_range (by omega)]
      simp only [Option.map_some, cellY, if_pos ha, Nat.one_mul]
    · rw [if_neg (by omega), List.getElem?_eq_none (by simpa using hj)]; rfl
  · rw [List.getElem?_eq_none (by rw [cY_len]; exact ha), List.getElem?_eq_none (by rw [alikeC_len, List.length_replicate]; exact ha)]
theorem from_rows {y : Int} {L : List Nat} (h1 : 1 ≤ L.length) (h20 : L.length ≤ 20) (hy : 1601 ≤ y ∧ y ≤ 2300) : fromL (rowsY y L L.length 0) = y ∧ toL (rowsY y L L.length 0) = y + L.length - 1 := by
  have hm : ∀ a b, a + b < L.length → rowX y L a b ∈ rowsY y L L.length 0 := fun a b h => by
    rw [rowsY, List.mem_append]
    refine .inl (List.mem_flatten.2 ⟨rowYI y L a (L.length - a), List.mem_map.2 ⟨a, List.mem_range.2 (by omega), rfl⟩, List.mem_map.2 ⟨b, List.mem_range.2 (by omega), rfl⟩⟩)
  have hmem : ∀ x ∈ rowsY y L L.length 0, y ≤ yrV x.a ∧ yrV x.b ≤ y + L.length - 1 := fun x hx => by
    obtain ⟨a, b, hab, rfl⟩ := rowsY_mem (.inr ⟨rfl, rfl⟩) hx
    obtain ⟨e1, e2, -⟩ := rowX_yr hab h20 hy
    rw [e1, e2]; omega
  have lo : ∀ (M : List R3) (c : Int), y ≤ c → (∀ x ∈ M, y ≤ yrV x.a) → y ≤ M.foldl (fun a x => min a (yrV x.a)) c := by
    intro M
    induction M with
    | nil => intro c h _; exact h
    | cons x r ih => intro c h hM; exact ih _ (by have := hM x (by simp); show y ≤ min c (yrV x.a); omega) (fun z hz => hM z (by simp [hz]))
  have hi : ∀ (M : List R3) (c : Int), c ≤ y + L.length - 1 → (∀ x ∈ M, yrV x.b ≤ y + L.length - 1) → M.foldl (fun a x => max a (yrV x.b)) c ≤ y + L.length - 1 := by
    intro M
    induction M with
    | nil => intro c h _; exact h
    | cons x r ih => intro c h hM; exact ih _ (by have := hM x (by simp); show max c (yrV x.b) ≤ _; omega) (fun z hz => hM z (by simp [hz]))
  obtain ⟨e1, e2, -⟩ := rowX_yr (y := y) (L := L) (a := 0) (b := L.length - 1) (by omega) h20 hy
  have g1 := from_le (hm 0 (L.length - 1) (by omega))
  have g2 := le_to (hm 0 (L.length - 1) (by omega))
  have g3 := lo (rowsY y L L.length 0) 2401 (by omega) (fun x hx => (hmem x hx).1)
  have g4 := hi (rowsY y L L.length 0) 0 (by omega) (fun x hx => (hmem x hx).2)
  rw [e1] at g1
  rw [e2] at g2
  unfold fromL toL at *
  omega
theorem rows_len (y : Int) (L : List Nat) (h20 : L.length ≤ 20) : ∀ i, i ≤ L.length → ∀ k, k ≤ L.length → (rowsY y L i k).length ≤ 20 * i + k := by
  intro i hi k _
  rw [rowsY, List.length_append]
  have h1 : (rowYI y L i k).length = k := by simp [rowYI]
  have h2 : ∀ i, i ≤ L.length → ((List.range i).map fun a => rowYI y L a (L.length - a)).flatten.length ≤ 20 * i := by
    intro i
    induction i with
    | zero => intro _; simp
    | succ i ih =>
      intro h
      rw [List.range_succ, List.map_append, List.flatten_append, List.length_append]
      have := ih (by omega)
      have h3 : ([i].map fun a => rowYI y L a (L.length - a)).flatten.length = L.length - i := by simp [rowYI]
      omega
  have := h2 i hi
  omega
/-- THE TRIANGLE OF THE ROWS. -/
theorem rows_of_years {y : Int} {L : List Nat} (h1 : 1 ≤ L.length) (h20 : L.length ≤ 20) (hy : 1601 ≤ y ∧ y ≤ 2300) (hb : ∀ m ∈ L, m ≤ 4294967296) :
    ofE (rowsY y L L.length 0) = 0 ∧ fromL (rowsY y L L.length 0) = y ∧ ofC (rowsY y L L.length 0) = alikeC (preS L) (List.replicate L.length 1) := by
  obtain ⟨hf, ht⟩ := from_rows h1 h20 hy
  have hput := put_rows h20 hy hb L.length (Nat.le_refl _) 0 (Nat.zero_le _)
  have hO : ofO (rowsY y L L.length 0) = some (cY L L.length 0) := by
    rw [ofO, hf, show yearsN (rowsY y L L.length 0) = L.length by rw [yearsN, hf, ht]; omega]
    exact hput
  have hlen := rows_len y L h20 L.length (Nat.le_refl _) 0 (Nat.zero_le _)
  have hne : rowsY y L L.length 0 ≠ [] := fun h => by
    rw [h] at ht
    simp [toL] at ht
    omega
  have hc : chkL (rowsY y L L.length 0) = 0 := chkL_ok.2 fun x hx => by
    obtain ⟨a, b, hab, rfl⟩ := rowsY_mem (.inr ⟨rfl, rfl⟩) hx
    exact rowX_chk hab h20 hy hb
  refine ⟨ofE_ok hne hc (by rw [hf, ht]; omega) hO, hf, ?_⟩
  rw [ofC, hO, Option.getD_some, cY_alike]
/-- WHAT THESE YEARS BECOME, AND WHAT IS LEFT. -/
theorem years_alike {f : Int} {L : List Nat} (h1 : 1 ≤ L.length) (h20 : L.length ≤ 20) (hf : 1601 ≤ f ∧ f ≤ 2300) (hb : ∀ m ∈ L, 1 ≤ m ∧ m ≤ 4294967296) :
    ultC f (alikeC (preS L) (List.replicate L.length 1)) = (List.replicate L.length (sumT L L.length), 0) ∧ rightC f (alikeC (preS L) (List.replicate L.length 1)) = true ∧
      lefts (castL (List.replicate L.length (sumT L L.length))) (diagL f (alikeC (preS L) (List.replicate L.length 1))) = (List.range L.length).map fun i => (sumT L L.length : Int) - (sumT L (L.length - i) : Int) := by
  have hs : ∀ t, sumT L t ≤ 4294967296 * 20 := fun t => Nat.le_trans (sumT_le (fun m hm => (hb m hm).2) t) (Nat.mul_le_mul_left _ h20)
  have hn : (List.replicate L.length 1).length = (preS L).length := by rw [List.length_replicate, preS_len]
  have hbb : ∀ m ∈ List.replicate L.length 1, ∀ x ∈ preS L, m * x ≤ 100000000000000000 := fun m hm x hx => by
    obtain rfl := (List.mem_replicate.1 hm).2
    obtain ⟨j, -, rfl⟩ := List.mem_map.1 hx
    have := hs (j + 1)
    omega
  have hpos : ∀ k, k < (preS L).length → 1 ≤ nthN (preS L) k := fun k hk => by
    rw [preS_len] at hk
    obtain ⟨m, hm⟩ := get_of hk
    have := (hb m (List.mem_of_getElem? hm)).1
    rw [preS_nth hk, sumT_succ hm]; omega
  have hr := right_alike (f := f) hn (by rw [preS_len]; exact h1) (by rw [preS_len]; exact h20) (by omega) hbb
  have hu := ult_alike (f := f) hn (by rw [preS_len]; exact h1) (by rw [preS_len]; exact h20) (by omega) hbb (.inl ⟨fun m hm => by rw [(List.mem_replicate.1 hm).2]; exact Nat.le_refl _, hpos⟩)
  refine ⟨?_, hr, ?_⟩
  · rw [hu, List.map_replicate, preS_len, preS_nth (by omega), Nat.one_mul, show L.length - 1 + 1 = L.length by omega]
  · refine List.ext_getElem? fun i => ?_
    rw [lefts, List.getElem?_zipWith, castL, List.map_replicate, List.getElem?_replicate, diagL, if_pos hr, List.getElem?_map, List.getElem?_map]
    rcases Nat.lt_or_ge i L.length with hi | hi
    · rw [if_pos hi, alikeC_get (preS L) _ i 1 (by rw [List.getElem?_replicate, if_pos hi]), List.getElem?_range hi]
      simp only [Option.map_some, List.length_replicate, Nat.one_mul]
      congr 2
      rw [lastI, List.getLast?_map, List.getLast?_eq_getElem?, List.length_take, preS_len, Nat.min_eq_left (by omega), List.getElem?_take, if_pos (by omega), preS, List.getElem?_map, List.getElem?_range (by omega)]
      simp only [Option.map_some, Option.getD_some]
      rw [show L.length - i - 1 + 1 = L.length - i by omega]
    · rw [if_neg (by omega), List.getElem?_eq_none (l := List.range L.length) (by simpa using hi)]
      rfl
end Go.Proofs.YtmfohnchnbgbaaaGreatDoor

/- A triangle that is being made (turned from the tri chapter's text TriH); arguments of 32 and of 16 bits, opened (from ClaimOrd). -/
namespace Go.Proofs.YtmfohnchnbgbaaaGreatDoor
open Go.ChangeShapes Go.WideShapes Go.ChangeAt Go.RowKit

section
variable {w wx wy : World} {B G : Nat} {f : Int} {R : List Rw} {A : Option Addr} {cap : Nat}
end
def encU (n : Int) : List Value := [.int .u32 n]
def okU (n : Int) : Prop := 0 ≤ n ∧ n ≤ 4294967295
theorem cells_u32 : Tryz.prog.cellsOf 26 = 1 := by kernel_rfl
theorem leaves_u32 : leaves Tryz.prog 1 26 = some [.int .u32] := by kernel_rfl
section
variable {H : Type} {enc : TypeId × Value → H} {W : World} {r : Reach} {b0 : Nat} {v : Value} {d : DataW H} {p : List MemPlace}
set_option maxRecDepth 100000 in
theorem open_u32s (hv : Value.okWide Tryz.prog W r b0 23 v) (h : DataW.Trod enc Tryz.prog W 0 (fun _ => true) true 23 v d p) :
    ∃ (A : Option Addr) (l : List Int) (cap : Nat), v = .slice A l.length cap ∧ SV W 1 A l.length cap (l.map encU) ∧ ∀ n ∈ l, okU n := by
  obtain ⟨A, l, cap, hv, h1, h2, h3, h4, h5⟩ := rows_of enc Tryz.prog W (α := Int) 1 1 encU okU leaves_u32 cells_u32 rfl (by omega) (fun cs hl => by
    obtain ⟨n1, l1, rfl, w1, h1⟩ := leaf_int enc _ _ hl
    obtain rfl := allLeaf_nil enc _ _ h1
    exact ⟨n1, rfl, by simpa [okU, Lit.wf, IntKind.min, IntKind.max, IntKind.signed, IntKind.bits] using w1⟩) (top_slice enc _ _ Tryz.underlying23 hv h)
  exact ⟨A, l, cap, hv, ⟨h3, List.length_map _, h1, h2, h5⟩, h4⟩
end
theorem Sl.u {w : World} {B k : Nat} {A : Option Addr} {l : List Int} {n : Int} (h : Sl w B 1 A (l.map encU)) (hx : l[k]? = some n) :
    ∃ b off, A = some ⟨b, off, none⟩ ∧ b < B ∧ w.cell? ⟨b, off + k, none⟩ = some (.int .u32 n) := by
  obtain ⟨b, off, hA, hb, hc⟩ := h k (encU n) (by simp [hx])
  exact ⟨b, off, hA, hb, by simpa using hc 0 _ rfl⟩

def encS (n : Int) : List Value := [.int .u16 n]
def okS (n : Int) : Prop := 0 ≤ n ∧ n ≤ 65535
theorem cells_u16 : Tryz.prog.cellsOf 22 = 1 := by kernel_rfl
theorem leaves_u16 : leaves Tryz.prog 1 22 = some [.int .u16] := by kernel_rfl
section
variable {H : Type} {enc : TypeId × Value → H} {W : World} {r : Reach} {b0 : Nat} {v : Value} {d : DataW H} {p : List MemPlace}
end
theorem Sl.s {w : World} {B k : Nat} {A : Option Addr} {l : List Int} {n : Int} (h : Sl w B 1 A (l.map encS)) (hx : l[k]? = some n) :
    ∃ b off, A = some ⟨b, off, none⟩ ∧ b < B ∧ w.cell? ⟨b, off + k, none⟩ = some (.int .u16 n) := by
  obtain ⟨b, off, hA, hb, hc⟩ := h k (encS n) (by simp [hx])
  exact ⟨b, off, hA, hb, by simpa using hc 0 _ rfl⟩

end Go.Proofs.YtmfohnchnbgbaaaGreatDoor

/- TopYearsAlike: years that are paid for alike develop alike. -/
namespace Go.Proofs.YtmfohnchnbgbaaaGreatDoor
open Go.ChangeShapes Go.WideShapes Go.ChangeAt Go.RowKit
set_option linter.unusedVariables false

theorem first_of (y : Int) (W : World) (h : 1601 ≤ y ∧ y ≤ 2401) : Calls Tryz.prog 6 #[.int .i64 y] W fun e w' => e = .returned (.tuple #[.int .i64 (aheadI y + 1), .int .i64 0]) ∧ W = w' := by
  have := first_any y W
  rw [if_pos h] at this
  exact this

set_option maxRecDepth 100000 in
set_option maxHeartbeats 4000000 in
theorem topYearsAlike_w (w : World) (x : Int) (hx : 0 ≤ x ∧ x ≤ 65535) (A0 : Option Addr) (l : List Int) (cap0 : Nat) (hs : SV w 1 A0 l.length cap0 (l.map encU)) (ho : ∀ n ∈ l, okU n) (hg : Hdl w) :
    Calls Tryz.prog 3 #[.int .u16 x, .slice A0 l.length cap0] w fun e w' => e = .returned (.bool true) ∧ Below w.heap.size w w' := by
  have HS := hide hs
  have HG := hide hg
  have HU := hide ho
  have hmo := hs.most
  have hle := hs.le
  unfold maxLen at hmo
  clear hs hg ho
  go_enter Tryz.func3, Tryz.ntmps3
  go_wp2_with fail
  refine (palive_any w).mono ?_
  rintro e w1 ⟨rfl, h1⟩
  obtain ⟨n, hn⟩ : ∃ n, l.length = n := ⟨_, rfl⟩
  rw [hn] at hle HS ⊢
  have HN := hide hn
  have H1 := hide h1
  clear h1 hn
  rcases (show n < 1 ∨ (1 ≤ n ∧ 20 < n) ∨ (1 ≤ n ∧ n ≤ 20) by omega) with h | ⟨h, h'⟩ | ⟨hn1, hn20⟩
  · have hq : (n : Int) < 1 := by omega
    go_wp2_with fail
    go_ret
    exact ⟨rfl, H1.out⟩
  · have hq : ¬ (n : Int) < 1 := by omega
    have hq2 : (20 : Int) < (n : Int) := by omega
    go_wp2_with fail
    go_ret
    exact ⟨rfl, H1.out⟩
  have hq : ¬ (n : Int) < 1 := by omega
  have hq2 : ¬ (20 : Int) < (n : Int) := by omega
  have hxt : 0 ≤ x.tmod 700 ∧ x.tmod 700 < 700 := by rw [Int.tmod_eq_emod_of_nonneg hx.1]; omega
  obtain ⟨r, hr⟩ : ∃ r, x.tmod 700 = r := ⟨_, rfl⟩
  rw [hr] at hxt
  go_wp2_with fail
  obtain ⟨y, hy⟩ : ∃ y, 1601 + r = y := ⟨_, rfl⟩
  rw [hy]
  have hyb : 1601 ≤ y ∧ y ≤ 2300 := by omega
  have hyo : ok64 y := by unfold ok64; omega
  obtain ⟨L, hL⟩ : ∃ L, l.map (fun v => 1 + v.toNat) = L := ⟨_, rfl⟩
  have hLn : L.length = n := by rw [← hL, List.length_map, HN.out]
  have hget : ∀ (k : Nat) (v : Int), l[k]? = some v → 0 ≤ v ∧ v ≤ 4294967295 ∧ L[k]? = some (1 + v.toNat) := fun k v hv => by
    obtain ⟨a, b⟩ := HU.out v (List.mem_of_getElem? hv)
    exact ⟨a, b, by rw [← hL, List.getElem?_map, hv]; rfl⟩
  have hLb : ∀ m ∈ L, 1 ≤ m ∧ m ≤ 4294967296 := fun m hm => by
    rw [← hL] at hm
    obtain ⟨v, hv, rfl⟩ := List.mem_map.1 hm
    obtain ⟨a, b⟩ := HU.out v hv
    omega
  have hsm : ∀ t, sumT L t ≤ 85899345920 := fun t => Nat.le_trans (sumT_le (fun m hm => (hLb m hm).2) t) (by rw [hLn]; omega)
  have HROW := hide (rows_of_years (y := y) (L := L) (by omega) (by omega) hyb (fun m hm => (hLb m hm).2))
  have HYA := hide (years_alike (f := y) (L := L) (by omega) (by omega) hyb hLb)
  have HGET := hide hget
  have HLN := hide hLn
  have HSM := hide hsm
  clear hr hx hxt hy hL hLn hget hLb hsm hq hq2 hmo HU
  go_loop [8, 9] (fun a q => ∃ k : Nat, k ≤ n ∧ q = .int .i64 k ∧ a = .int .i64 (sumT L k : Nat)) (fun _ q => n - (RowKit.intOf q).toNat)
  case atStart => exact ⟨0, Nat.zero_le _, rfl, by simp [sumT]⟩
  case round =>
    obtain ⟨k, hk, rfl, rfl⟩ := hrel
    by_cases hlt : k < n
    · obtain ⟨v, hv⟩ := get_of (l := l) (k := k) (by rw [HN.out]; exact hlt)
      obtain ⟨hv0, hv1, hv2⟩ := HGET.out k v hv
      obtain ⟨b, off, rfl, hbl, c0⟩ := (HS.out.below H1.out).sl.u hv
      have hk0 : (0 : Int) ≤ (k : Int) := by omega
      have hk1 : (k : Int) < (n : Int) := by omega
      have hw : IntKind.i64.wrap v = v := IntWalk.i64_in _ (by omega)
      have hb0 := HSM.out k
      have hsu := sumT_succ hv2
      clear hv hv2
      go_wp2_with fail
      go_round
      case rel => exact ⟨k + 1, by omega, by go_num, by rw [hsu]; go_num⟩
      case measure => simp [RowKit.intOf]; omega
    · obtain rfl : n = k := by omega
      have hk1 : ¬ (n : Int) < (n : Int) := by omega
      clear hlt hk
      go_wp2_with fail
      go_loopw [7, 10] (fun t q wr => ∃ (i N : Nat) (A : Option Addr) (c : Nat), i ≤ n ∧ q = .int .i64 i ∧ t = .slice A N c ∧ Hid (N = (rowsY y L i 0).length) ∧ OwnS wr w1.heap.size 30 3 A N c ((rowsY y L i 0).map enc3) ∧ Below w1.heap.size w1 wr) (fun _ q _ => n - (RowKit.intOf q).toNat)
      case atStart => exact ⟨0, 0, none, 0, Nat.zero_le _, rfl, rfl, hide rfl, OwnS.nil_ _ _ _ _, Below.refl _ _⟩
      case round =>
        obtain ⟨i, N, A, c, hi, rfl, rfl, HNN, hown, hb⟩ := hrel
        rename World => W0
        have HO := hide hown
        have HB := hide hb
        clear hown
        by_cases hlt : i < n
        · have hk0 : (0 : Int) ≤ (i : Int) := by omega
          have hk1 : (i : Int) < (n : Int) := by omega
          clear hb
          go_wp2_with fail
          go_loopw [7, 11] (fun t q ws => ∃ (k N : Nat) (A : Option Addr) (c : Nat), k ≤ n - i ∧ q = .int .i64 k ∧ t = .slice A N c ∧ Hid (N = (rowsY y L i k).length) ∧ OwnS ws w1.heap.size 30 3 A N c ((rowsY y L i k).map enc3) ∧ Below w1.heap.size w1 ws) (fun _ q _ => (n - i) - (RowKit.intOf q).toNat)
          case atStart => exact ⟨0, N, A, c, Nat.zero_le _, rfl, rfl, HNN, HO.out, HB.out⟩
          case round =>
            obtain ⟨k, N, A, c, hk, rfl, rfl, HNN, hown, hb⟩ := hrel
            have HO := hide hown
            have HB := hide hb
            have hle20 := rows_len y L (by rw [HLN.out]; exact hn20) i (by rw [HLN.out]; omega) k (by rw [HLN.out]; omega)
            have hN400 : N ≤ 420 := by have := HNN.out; omega
            clear hown hle20
            by_cases hltk : k < n - i
            · obtain ⟨v, hv⟩ := get_of (l := l) (k := k) (by rw [HN.out]; omega)
              obtain ⟨hv0, hv1, hv2⟩ := HGET.out k v hv
              obtain ⟨b, off, rfl, hbl, c0⟩ := (HS.out.below (chain H1.out hb)).sl.u hv
              have hq0 : (0 : Int) ≤ (k : Int) := by omega
              have hq1 : (k : Int) < (n : Int) := by omega
              have hq2 : (k : Int) < (n : Int) - (i : Int) := by omega
              have hw : IntKind.i64.wrap v = v := IntWalk.i64_in _ (by omega)
              have hf1 : ∀ W, Calls Tryz.prog 6 #[.int .i64 (y + (i : Int))] W fun e w' => e = .returned (.tuple #[.int .i64 (aheadI (y + i) + 1), .int .i64 0]) ∧ W = w' := fun W => first_of (y + i) W (by omega)
              have hf2 : ∀ W, Calls Tryz.prog 6 #[.int .i64 (y + (i : Int) + (k : Int))] W fun e w' => e = .returned (.tuple #[.int .i64 (aheadI (y + i + k) + 1), .int .i64 0]) ∧ W = w' := fun W => first_of (y + i + k) W (by omega)
              have hrx : (⟨aheadI (y + i) + 1 + 7 * i, aheadI (y + i + k) + 1 + 200 + k, 1 + v⟩ : R3) = rowX y L i k := by
                rw [rowX]
                congr 1
                rw [nthN, hv2, Option.getD_some]; omega
              have ha1 : 0 ≤ aheadI (y + i) ∧ aheadI (y + i) ≤ 300000 := by unfold aheadI; omega
              have ha2 : 0 ≤ aheadI (y + i + k) ∧ aheadI (y + i + k) ≤ 300000 := by unfold aheadI; omega
              obtain ⟨a1, e1⟩ : ∃ a, aheadI (y + i) = a := ⟨_, rfl⟩
              obtain ⟨a2, e2⟩ : ∃ a, aheadI (y + i + k) = a := ⟨_, rfl⟩
              rw [e1] at hf1 hrx ha1
              rw [e2] at hf2 hrx ha2
              have HF1 := hide hf1
              have HF2 := hide hf2
              have HRX := hide hrx
              have hi20 : (i : Int) ≤ 20 := by omega
              have hk20 : (k : Int) ≤ 20 := by omega
              have hszb := HB.out.size
              clear hv hv2 hf1 hf2 hrx e1 e2 hb hbl
              go_wp2_with fail
              refine (HF1.out _).mono ?_
              rintro e w' ⟨rfl, rfl⟩
              go_wp2_with fail
              refine (HF2.out _).mono ?_
              rintro e w' ⟨rfl, rfl⟩
              go_wp2_with (at_builtin
                           refine wpList_app rfl (.tmp 88) (.tmp 104) 25 rfl el3 (B := w1.heap.size) (A2 := some ⟨_, 0, none⟩) (news := [(⟨a1 + 1 + 7 * i, a2 + 1 + 200 + k, 1 + v⟩ : R3)].map enc3) rfl (HO.out.alloc _) rfl rfl ?_ (ok_rows3 _) ?_ ?_ ?_ ?_
                           · exact sl_of_blk (cs := #[.int .i64 (a1 + 1 + 7 * i), .int .i64 (a2 + 1 + 200 + k), .int .i64 (1 + v)]) (Blk.new _ _ _)
                           · simp only [maxLen]; omega
                           · omega
                           · simp; omega
                           intro A5 c5 w5 ho5 hg5 ha5
                           rw [HRX.out] at ho5
                           have HO5 := hide ho5
                           have H5 := hide ((HB.out.alloc HB.out.size _).grown hg5 (by simp; omega) (fun q hq => (HO.out.lt q hq).1))
                           clear ho5 hg5 ha5)
              go_roundw
              case rel => exact ⟨k + 1, N + 1, A5, c5, by omega, by go_num, rfl, hide (by rw [rowsY_snoc, List.length_append, HNN.out]; rfl), by rw [rowsY_snoc, List.map_append]; exact HO5.out, H5.out⟩
              case measure => simp [RowKit.intOf]; omega
            · have hq2 : ¬ (k : Int) < (n : Int) - (i : Int) := by omega
              have hke : k = n - i := by omega
              have HKE := hide hke
              clear hb hke
              go_wp2_with fail
              go_roundw
              case rel => exact ⟨i + 1, N, A, c, by omega, by go_num, rfl, hide (by rw [rowsY_next, HLN.out, ← HKE.out]; exact HNN.out), by rw [rowsY_next, HLN.out, ← HKE.out]; exact HO.out, HB.out⟩
              case measure => simp [RowKit.intOf]; omega
        · obtain rfl : n = i := by omega
          have hk1 : ¬ (n : Int) < (n : Int) := by omega
          clear hb hlt hi
          go_wp2_with fail
          have hOF := of_any A c (rowsY y L n 0) W0 (by have := HO.out.sv; rw [HNN.out] at this; exact this)
          have hrow := HROW.out
          rw [HLN.out] at hrow
          obtain ⟨q1, q2, q3⟩ := hrow
          rw [← HNN.out, q1, q2, q3] at hOF
          have hya := HYA.out
          rw [HLN.out] at hya
          obtain ⟨y1, y2, y3⟩ := hya
          clear q1 q2 q3
          refine hOF.mono ?_
          rintro e w2 ⟨h2, ⟨hne, -⟩ | ⟨-, A2, c2, R, rfl, hMV, hall, -⟩⟩
          · exact absurd rfl hne
          clear hOF
          obtain ⟨w3, hw3⟩ : ∃ W, w2.alloc (.cells #[.int .i64 y, .slice A2 R.length c2] 33) = W := ⟨_, rfl⟩
          obtain ⟨G, hG⟩ : ∃ G, w2.heap.size = G := ⟨_, rfl⟩
          have hB3 : Blk w3 G 33 #[.int .i64 y, .slice A2 R.length c2] := by rw [← hw3, ← hG]; exact Blk.new _ _ _
          have hb3 : Below w2.heap.size w2 w3 := by rw [← hw3]; exact (Below.refl _ _).alloc (Nat.le_refl _) _
          have H3 := hide (chain H1.out (chain HB.out (chain h2 hb3)))
          have hM3 := hMV.below hb3
          have hUA := ult_any y A2 c2 R w3 hM3 hyo (HG.out.below H3.out)
          have hLA := fun W (hW : Below w3.heap.size w3 W) => left_any y A2 c2 R W (hM3.below hW) hyo (HG.out.below (chain H3.out hW))
          rw [hall, y1] at hUA
          rw [hall, y1] at hLA
          simp only [List.length_replicate] at hUA hLA
          rw [y3] at hLA
          have HUA := hide hUA
          have HLA := hide hLA
          have HB3 := hide hB3
          have t0 := hB3.cell 0
          have t1 := hB3.cell 1
          simp at t0 t1
          have HW3 := hide hw3
          have HSN := hide (HSM.out n)
          have hGlt := hB3.lt
          clear h2 hMV hall hb3 hM3 hUA hLA hB3 hw3 y1 y2 y3
          go_upto_region 23 with fail
          rw [show w2.alloc (.cells #[.int .i64 y, .slice A2 R.length c2] 33) = w3 from HW3.out]
          clear hG
          go_wp2_with fail
          refine HUA.out.mono ?_
          rintro e w4 ⟨A3, c3, rfl, ho3, hb4, -⟩
          have HO3 := hide ho3.sv
          have H4 := hide hb4
          have hB4 := HB3.out.below hb4 hGlt
          have t0 := hB4.cell 0
          have t1 := hB4.cell 1
          simp at t0 t1
          have HB4 := hide hB4
          clear ho3 hb4 hB4
          go_wp2_with fail
          refine (HLA.out _ H4.out).mono ?_
          rintro e w5 ⟨A4, c4, rfl, ho4, hb5, -⟩
          have HO4 := hide ho4.sv
          have HO35 := hide (HO3.out.below hb5)
          have H5 := hide (chain H4.out hb5)
          have hB5 := HB4.out.below hb5 HB4.out.lt
          have t0 := hB5.cell 0
          simp at t0
          have hbn1 : (y != y) = false := by simp
          have hbn2 : ((n : Int) != (n : Int)) = false := by simp
          clear ho4 hb5 hB5 t1
          go_wp2_with fail
          clear t0 hbn1 hbn2
          go_loop [22, 23] (fun a q => ∃ i : Nat, i ≤ n ∧ q = .int .i64 i ∧ a = .int .i64 ((sumT L n : Nat) - (sumT L (n - i) : Nat))) (fun _ q => n - (RowKit.intOf q).toNat)
          case atStart => exact ⟨0, Nat.zero_le _, rfl, by simp⟩
          case round =>
            obtain ⟨i, hi, rfl, rfl⟩ := hrel
            by_cases hlt2 : i < n
            · obtain ⟨m, hm⟩ : ∃ m, n - 1 - i = m := ⟨_, rfl⟩
              obtain ⟨v, hv⟩ := get_of (l := l) (k := m) (by rw [HN.out]; omega)
              obtain ⟨hv0, hv1, hv2⟩ := HGET.out m v hv
              obtain ⟨b, off, rfl, hbl, c0⟩ := (HS.out.below (chain H3.out H5.out)).sl.u hv
              have hu : (castL (List.replicate n (sumT L n)))[i]? = some ((sumT L n : Nat) : Int) := by simp [castL, hlt2]
              have hz : ((List.range n).map fun i => ((sumT L n : Nat) : Int) - ((sumT L (n - i) : Nat) : Int))[i]? = some (((sumT L n : Nat) : Int) - ((sumT L (n - i) : Nat) : Int)) := by simp [hlt2]
              obtain ⟨b3, o3, rfl, hb3, y0⟩ := HO35.out.sl.i hu
              obtain ⟨b4, o4, rfl, hb4, y1⟩ := HO4.out.sl.i hz
              have hk0 : (0 : Int) ≤ (i : Int) := by omega
              have hk1 : (i : Int) < (n : Int) := by omega
              have hmi : (n : Int) - 1 - (i : Int) = (m : Int) := by omega
              have hw : IntKind.i64.wrap v = v := IntWalk.i64_in _ (by omega)
              have hs1 := HSM.out (n - i)
              have hs2 := HSM.out n
              have hsu := sumT_succ hv2
              rw [show m + 1 = n - i by omega] at hsu
              have HSU := hide hsu
              have HM := hide hm
              obtain ⟨S, hS⟩ : ∃ S, ((sumT L n : Nat) : Int) = S := ⟨_, rfl⟩
              obtain ⟨T, hT⟩ : ∃ T, ((sumT L (n - i) : Nat) : Int) = T := ⟨_, rfl⟩
              have hST : 0 ≤ S ∧ S ≤ 85899345920 ∧ 0 ≤ T ∧ T ≤ 85899345920 := by omega
              have HSS := hide hS
              have HTT := hide hT
              rw [hS] at y0 y1 ⊢
              rw [hT] at y1 ⊢
              have hbn1 : (S != S) = false := by simp
              have hbn2 : ((S - T) != (S - T)) = false := by simp
              clear hv hv2 hu hz hsu hs1 hs2 hm hS hT
              go_wp2_with fail
              refine ⟨⟨i + 1, by omega, by go_num, ?_⟩, by simp [RowKit.intOf]; omega⟩
              congr 1
              have h1 := HSU.out
              have h2 := HTT.out
              rw [show n - (i + 1) = m by have := HM.out; omega]
              omega
            · obtain rfl : n = i := by omega
              have hk3 : ¬ (n : Int) < (n : Int) := by omega
              go_wp2_with fail
              go_ret
              exact ⟨rfl, chain H3.out H5.out⟩
theorem topYearsAlike_walk (w : World) (x : Int) (hx : (Lit.int .u16 x).wf = true) (A0 : Option Addr) (l : List Int) (cap0 : Nat) (hs : SV w 1 A0 l.length cap0 (l.map encU)) (ho : ∀ n ∈ l, okU n) (hg : Hdl w) :
    Calls Tryz.prog 3 #[.int .u16 x, .slice A0 l.length cap0] w fun e w' => e = .returned (.bool true) ∧ Below w.heap.size w w' :=
  topYearsAlike_w w x (by simpa [Lit.wf, IntKind.min, IntKind.max, IntKind.signed, IntKind.bits] using hx) A0 l cap0 hs ho hg

set_option maxRecDepth 100000 in
theorem topYearsAlike_lifted (os : Os) (started : os.Started) (H : Type) (enc : TypeId × Value → H) :
    ReturnsInHanded {} Tryz.checked os 3 .any (fun w args => (Rows.topYearsAlikeSpec.pre enc Tryz.prog Tryz.f3 Rows.topYearsAlikeRow.domain false w args ∧ laidMetH Tryz.prog [("errors.errorType", Rows.laid_errors_errorType)] w) ∧ sizedMet enc Tryz.prog Tryz.f3 (OpenSpec.ofChange Rows.topYearsAlikeSpec) false w args) (Rows.topYearsAlikeSpec.post enc Tryz.prog Tryz.f3 false true false false) := by
  refine returnsInHanded_of_change_and (C := Tryz.checked) (X := fun w _ => laidMetH Tryz.prog [("errors.errorType", Rows.laid_errors_errorType)] w) (fun _ _ _ hh h => h.of_heap hh) own started (by kernel_rfl) Tryz.func3
    (ChangeSpec.witness_at (enc := enc) (C := Tryz.checked) (os := os) (X := fun w _ => laidMetH Tryz.prog [("errors.errorType", Rows.laid_errors_errorType)] w) false (laidWorld os) #[.int .u16 0, .slice none 0 0] 8 rfl (by kernel_rfl) (by kernel_rfl) (by kernel_rfl) (by kernel_rfl) (by kernel_rfl) (laidWorld_met os _)) ?_
  intro W base args ds gs before hval0 hW hcnd hz0 hL _
  have hval : ∀ (j : Nat) t v, Tryz.f3.params[j]? = some t → args[j]? = some v → Value.okWide Tryz.prog W .any base t v := hval0
  have hg := handle_of_laid hL
  have hW' := hW
  obtain ⟨p, q, hA0, hV, rfl, hfz, hnd⟩ := hW
  have hA : DataW.TrodAll enc Tryz.prog W 0 (fun _ => true) true Tryz.f3.params.toList args.toList ds p := hA0
  rw [Tryz.params3] at hA hval
  obtain ⟨v0, vs0, d0, ds0, p0, q0, hargs, rfl, rfl, h0, r0⟩ := trodAll_cons hA
  obtain ⟨v1, vs1, d1, ds1, p1, q1, rfl, rfl, rfl, h1, r1⟩ := trodAll_cons r0
  obtain ⟨rfl, rfl, rfl⟩ := trodAll_nil r1
  obtain rfl : args = #[v0, v1] := by cases args; simp_all
  obtain ⟨rfl, rfl⟩ := trodVars_none hV
  obtain ⟨x0, rfl, rfl, rfl, wx0⟩ := open_int Tryz.underlying22 (hval 0 22 v0 rfl rfl) h0
  obtain ⟨A1, l1, p1, rfl, hs1, ho1⟩ := open_u32s (hval 1 23 v1 rfl rfl) h1
  refine (topYearsAlike_walk W x0 wx0 A1 l1 p1 hs1 ho1 hg).mono fun e W' ⟨he, hb⟩ => ?_
  subst he
  exact ⟨_, rfl, law_post laidOut (by kernel_rfl) rfl Tryz.underlying4 rfl rfl hW' hb⟩

/-- THE STATEMENT. -/
theorem topYearsAlike_holds : Rows.TopYearsAlikeSaid :=
  OpenClaim.holds_of_wide 3 Tryz.f3 rfl rfl rfl rfl rfl rfl rfl ⟨rfl, rfl, rfl, rfl, rfl⟩ rfl rfl rfl rfl rfl (by kernel_rfl) Tryz.func3 (by kernel_rfl)
    (of_decide_eq_true (by kernel_rfl)) (by unfold Func.isWrapper; first | (rw [if_pos (by decide +kernel)]; kernel_rfl) | (rw [if_neg (by decide +kernel)]; exact ⟨rfl, rfl⟩))
    (fun os started H enc _ => topYearsAlike_lifted os started H enc)

/-- THE CARD. -/
theorem topYearsAlike_card : Rows.TopYearsAlikeCardSaid :=
  Claim7.holds_tied_plain_at .later [] [.handle] true (true, "a762175604726eaf503e19e7344a5bfdbaefc46709ac949de9124ca253a18e26") true
    topYearsAlike_holds (fun _ h => by cases h) (by kernel_rfl) (fun _ h => by cases h) topYearsAlike_row_tie rfl ⟨rfl, rfl⟩ (by kernel_rfl) rfl
    (fun f fn hf hfn => by
      obtain rfl : f = 3 := Option.some.inj ((show Tryz.prog.funcNamed "bordereau/bordereautop.TopYearsAlike" = some 3 by kernel_rfl).symm.trans hf) |>.symm
      obtain rfl : fn = Tryz.f3 := (Option.some.inj (Tryz.func3.symm.trans hfn)).symm
      exact ⟨by kernel_rfl, fun j t ht => by
        rw [Tryz.params3] at ht
        have h3 : t = 22 ∨ t = 23 := by
          rcases j with _ | _ | j
          · exact .inl (by simpa using ht.symm)
          · exact .inr (by simpa using ht.symm)
          · simp at ht
        rcases h3 with rfl | rfl
        · exact (show Tryz.prog.wantsStandIn 22 = false by kernel_rfl)
        · exact (show Tryz.prog.wantsStandIn 23 = false by kernel_rfl)⟩)
    (by kernel_rfl)

end Go.Proofs.YtmfohnchnbgbaaaGreatDoor
