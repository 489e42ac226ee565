/- How years develop: both programs. -/
import Derived.Test.YtndfgglnhkdciaaDoorLadI
namespace Go.Proofs.YtndfgglnhkdciaaDoor
open Go.RowKit

def encRt (x : Nat × Nat) : List Value := [.int .i64 (x.1 : Int), .int .i64 (x.2 : Int)]
theorem elRt : ElT Tryd.prog 27 32 2 16 := ElT.mk' (z := .agg #[.int .i64 0, .int .i64 0]) Tryd.underlying27 (by kernel_rfl) rfl (by omega)
theorem okRt (l : List (Nat × Nat)) : RowsOk 2 (l.map encRt) := by
  intro r hr
  obtain ⟨x, _, rfl⟩ := List.mem_map.1 hr
  refine ⟨rfl, fun u hu => ?_⟩
  simp [encRt] at hu
  rcases hu with rfl | rfl <;> rfl
theorem sl_rt {w : World} {t : TypeId} (n d : Nat) : Sl (w.alloc (.cells #[.int .i64 (n : Int), .int .i64 (d : Int)] t)) (w.alloc (.cells #[.int .i64 (n : Int), .int .i64 (d : Int)] t)).heap.size 2 (some ⟨w.heap.size, 0, none⟩) ([(n, d)].map encRt) :=
  sl_of_blk (Blk.new w t #[.int .i64 (n : Int), .int .i64 (d : Int)])
theorem right_bounds {f : Int} {c : List (List Int)} (h : rightC f c = true) : 1 ≤ c.length ∧ c.length ≤ 20 := by
  rw [rightC, Bool.and_eq_true] at h
  have h1 := h.1
  rw [boundsB, decide_eq_true_eq] at h1
  exact ⟨h1.1, h1.2.1⟩
theorem right_b {w0 w wa : World} {f : Int} {A : Option Addr} {n cap : Nat} {M : List Rw} {c : List (List Int)} {r : Bool} (hs : MV wa A n cap M) (ha : Below wa.heap.size wa w) (h : Below w0.heap.size w0 w) (hf : ok64 f) (hc : allM M = c) (hr : rightC f c = r) :
    Calls Tryd.prog 18 #[.agg #[.int .i64 f, .slice A n cap]] w fun e w' => e = .returned (.bool r) ∧ Below w0.heap.size w0 w' ∧ Below w.heap.size w w' := by
  have hM := hs.len
  subst hM
  refine (right_any f A cap M w (hs.below ha) hf).mono ?_
  rintro e w' ⟨rfl, hb⟩
  exact ⟨by rw [hc, hr], chain h hb, hb⟩
theorem rightR_b {w0 w wa : World} {f : Int} {A : Option Addr} {n cap : Nat} {M : List Rw} {c : List (List Int)} {r : Bool} (hs : MV wa A n cap M) (ha : Below wa.heap.size wa w) (h : Below w0.heap.size w0 w) (hf : ok64 f) (hc : allM M = c) (hr : rightC f c = r) :
    Calls Tryd.prog 22 #[.agg #[.int .i64 f, .slice A n cap]] w fun e w' => e = .returned (.bool r) ∧ Below w0.heap.size w0 w' ∧ Below w.heap.size w w' := by
  have hM := hs.len
  subst hM
  refine (rightR_any f A cap M w (hs.below ha) hf).mono ?_
  rintro e w' ⟨rfl, hb⟩
  exact ⟨by rw [hc, hr], chain h hb, hb⟩

/-- What the factors are, as both programs give them. -/
def FacP (w0 w : World) (r : Bool) (F : List (Nat × Nat)) (n : Nat) (e : Ending) (w' : World) : Prop :=
  (r = false → e = .returned (.tuple #[.slice none 0 0, .int .i64 1])) ∧ (r = true → ∃ A' c', e = .returned (.tuple #[.slice A' n c', .int .i64 0]) ∧ OwnS w' w0.heap.size 32 2 A' n c' (F.map encRt)) ∧ Below w0.heap.size w0 w' ∧ Below w.heap.size w w'

set_option maxRecDepth 100000 in
set_option maxHeartbeats 2000000 in
theorem factors_any (f : Int) (A : Option Addr) (cap : Nat) (M : List Rw) (w : World) (hs : MV w A M.length cap M) (hf : ok64 f) :
    Calls Tryd.prog 11 #[.agg #[.int .i64 f, .slice A M.length cap]] w (FacP w w (rightC f (allM M)) (facL (allM M)) (facL (allM M)).length) := by
  have HS := hide hs
  clear hs
  obtain ⟨r, hr⟩ : ∃ b, rightC f (allM M) = b := ⟨_, rfl⟩
  have HR := hide hr
  rw [hr]
  clear hr
  go_enter Tryd.func11, Tryd.ntmps11
  go_wp2_with fail
  refine (right_b (w0 := w) HS.out ((Below.refl _ _).alloc (Nat.le_refl _) _) ((Below.refl _ _).alloc (Nat.le_refl _) _) hf rfl HR.out).mono ?_
  rintro e w1 ⟨rfl, h1, hb1⟩
  cases r
  · clear hb1
    go_wp2_with fail
    go_ret2
    exact ⟨fun _ => rfl, fun h => (by cases h), h1, h1⟩
  have hok := right_okC HR.out
  have hbd := right_bounds HR.out
  rw [allM_len] at hbd
  have t0 := kept hb1 (b := w.heap.size) (o := 0) (u := .int .i64 f) (by simp)
  have t1 := kept hb1 (b := w.heap.size) (o := 1) (u := .slice A M.length cap) (by simp)
  have htl := block_lt_of_cell t0
  have H1 := hide h1
  have HOK := hide hok
  obtain ⟨m, hm⟩ : ∃ m, M.length = m + 1 := ⟨M.length - 1, by omega⟩
  have hml : (facL (allM M)).length = m := by rw [facL_len, allM_len, hm]; rfl
  have HML := hide hml
  have hmi : (M.length : Int) - 1 = (m : Int) := by omega
  have hmb : m ≤ 19 := by omega
  have HM := hide hm
  rw [hml]
  clear hb1 h1 hok hml hm
  go_wp2_with fail
  have T0 := hide t0
  have T1 := hide t1
  clear t0 t1
  go_loopw [4, 13] (fun o q wr => ∃ (j : Nat) (A' : Option Addr) (c' : Nat), j ≤ m ∧ q = .int .i64 j ∧ o = .slice A' j c' ∧ OwnS wr w1.heap.size 32 2 A' j c' (((facL (allM M)).take j).map encRt) ∧ Below w1.heap.size w1 wr) (fun _ q _ => m - (RowKit.intOf q).toNat)
  case atStart => exact ⟨0, none, 0, Nat.zero_le _, rfl, rfl, OwnS.nil_ _ _ _ _, Below.refl _ _⟩
  case round =>
    obtain ⟨j, A', c', hj, rfl, rfl, hown, hb⟩ := hrel
    have t0 := kept hb T0.out
    have t1 := kept hb T1.out
    have htl2 := block_lt_of_cell t0
    have HB := hide hb
    have HO := hide hown
    by_cases hlt : j < m
    · have hlt' : (j : Int) < (m : Int) := by omega
      have HG := hide (take_of (facL_get (c := allM M) (k := j) (by rw [allM_len, HM.out]; exact hlt)))
      clear hb hown
      go_wp2_with fail
      refine (factor_any f A cap j M wr (HS.out.below (chain H1.out HB.out)) HOK.out (by omega)).mono ?_
      rintro e w2 ⟨rfl, hb2⟩
      obtain ⟨n, hn⟩ : ∃ z, (facK (allM M) j).1 = z := ⟨_, rfl⟩
      obtain ⟨d, hd⟩ : ∃ z, (facK (allM M) j).2 = z := ⟨_, rfl⟩
      have hnd : facK (allM M) j = (n, d) := by rw [← hn, ← hd]
      rw [hn, hd]
      rw [hnd] at HG
      have hown2 := (HO.out.below hb2).alloc (.cells #[.int .i64 (n : Int), .int .i64 (d : Int)] 32)
      have H2 := hide (chain HB.out hb2)
      have hbz := H2.out.size
      have hb3 := H2.out.alloc hbz (.cells #[.int .i64 (n : Int), .int .i64 (d : Int)] 32)
      clear hb2 hn hd hnd t0 t1
      go_wp2_with (at_builtin; refine wpList_app rfl (.tmp 16) (.tmp 20) 27 rfl elRt (B := w1.heap.size) (news := [(n, d)].map encRt) rfl hown2 rfl rfl (sl_rt n d) (okRt _) (by unfold maxLen; omega) (by omega) (by simp; omega) ?_; intro A2 c2 w3 ho hg hA)
      have HO2 := hide ho
      have H3 := hide (hb3.grown hg (by simp; omega) (fun k e => (hown2.lt k e).1))
      clear ho hg hA hown2 hb3
      go_roundw
      case rel => exact ⟨j + 1, A2, c2, by omega, by go_num, rfl, by rw [HG.out, List.map_append]; exact HO2.out, H3.out⟩
      case measure => simp [RowKit.intOf]; omega
    · obtain rfl : j = m := by omega
      have hlt' : ¬ (j : Int) < (j : Int) := by omega
      go_wp2_with fail
      go_ret2
      have h9 := chain H1.out hb
      refine ⟨fun h => (by cases h), fun _ => ⟨A', c', by rw [HML.out]; rfl, ?_⟩, h9, h9⟩
      rw [List.take_of_length_le (by rw [HML.out]; exact Nat.le_refl _)] at hown
      rw [HML.out]
      exact hown.mono H1.out.size
end Go.Proofs.YtndfgglnhkdciaaDoor
