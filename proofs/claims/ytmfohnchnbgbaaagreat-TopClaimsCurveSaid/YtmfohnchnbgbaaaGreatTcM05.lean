/- Part 5 of the proof. -/
import Derived.BigQuiet
import Derived.Deep.RegionHeld3
import Derived.Deep.QuietTactic
import Derived.Defers
import Derived.Recover
import Derived.Shelf.Abstract
import Derived.Test.YtmfohnchnbgbaaaGreatRows
import Derived.ProofKit
import Derived.ScopeJumps
import Derived.WalkMore
import Derived.Deep.RegionWith
import Derived.Laws.EntriesVeiled
import Derived.Deep.RegionLaw
import Derived.Deep.CutRange
import Derived.Lib.Strings
import Derived.Lib.Slices
import Derived.Lib.Small
import Derived.Lib.Walk
import Derived.Lib.BitFns
import Derived.Shelf.Bits.Mul64
import Derived.Test.YtmfohnchnbgbaaaGreatTcM01
import Derived.Test.YtmfohnchnbgbaaaGreatTcM02
import Derived.Test.YtmfohnchnbgbaaaGreatTcM04
/- A drawn region over a class of worlds, walked once. -/
namespace Go.Proofs.YtmfohnchnbgbaaaGreat
open Go.RowKit Go.BigFrame

section
variable {P : Program} {ops : Array Oper} {C : World → Prop} {a : Act} {o : Oper} {K : Act → Prop} {v : Value}
theorem quiet_yield (h : ∀ w, C w → (execOp a.eval o).run P w = .ok (.value v) w) (hk : K (a.put o.dst v)) : o.quiet P a C K :=
  ⟨v, fun w hw => by unfold Oper.quietAt; rw [h w hw]; exact ⟨rfl, rfl⟩, hk⟩
theorem quiet_call {f : FuncId} {args : Array Value} (h : ∀ w, C w → (execOp a.eval o).run P w = .ok (.enter f args) w) (hc : ∀ w, C w → Calls P f args w fun e w'' => e = .returned v ∧ C w'') (hk : K (a.put o.dst v)) : o.quiet P a C K :=
  ⟨v, fun w hw => by unfold Oper.quietAt; rw [h w hw]; exact ⟨rfl, hc w hw⟩, hk⟩
theorem wp_region_class {id : Nat} {Q : Exit → Act → World → Prop} {w : World} {l : List Oper} (C : World → Prop) (hm : P.follows .mixedOrders = true) (hB : Region.lexB .any l.toArray = true) (hC : C w.drew)
    (h : wpQuiet P l.toArray C (fun a' => ∀ w', C w' → Q .normal a' w') l a) : (Code.region id l.toArray true).wp P Q a w :=
  wp_region_quiet hm hB hC (by simpa using h)
end

end Go.Proofs.YtmfohnchnbgbaaaGreat

/- Spans, covers, whether a list of whole numbers is sorted: small functions of the program; each answer is a value. -/
namespace Go.Proofs.YtmfohnchnbgbaaaGreat
open Go.RowKit

theorem nan_any (n : Int) (w : World) : Calls Tryz.prog 176 #[.int .i64 n] w fun e w' => e = .returned (.bool false) ∧ w = w' := by
  go_enter Tryz.func176, Tryz.ntmps176
  go_wp2
  all_goals
    go_ret
    exact ⟨rfl, rfl⟩
theorem less_any (a b : Int) (w : World) : Calls Tryz.prog 177 #[.int .i64 a, .int .i64 b] w fun e w' => e = .returned (.bool (decide (a < b))) ∧ w = w' := by
  go_enter Tryz.func177, Tryz.ntmps177
  go_wp2_with (go_at_call 176; refine (nan_any _ _).mono ?_; rintro e w' ⟨rfl, rfl⟩)
  all_goals
    go_ret
    exact ⟨ret_bool (by simp), rfl⟩

/-- Is a span right; has it days. -/
def spanB (f t : Int) : Bool := decide (1 ≤ f ∧ f ≤ t ∧ t ≤ 292195)
def daysB (f t : Int) : Bool := decide (1 ≤ f ∧ f < t ∧ t ≤ 292195)
def keF (f t : Int) : Int := if daysB f t = true then f else 0
def keT (f t : Int) : Int := if daysB f t = true then t else 0
def inB (f t d : Int) : Bool := daysB f t && decide (f ≤ d ∧ d < t)
theorem ke_bd (f t : Int) : 0 ≤ keF f t ∧ keF f t ≤ keT f t ∧ keT f t ≤ 292195 := by
  unfold keF keT
  split
  · rename_i h; simp [daysB] at h; omega
  · omega

theorem span_any (f t : Int) (w : World) :
    Calls Tryz.prog 143 #[.agg #[.int .i64 f, .int .i64 t]] w fun e w' => e = .returned (.bool (spanB f t)) ∧ Below w.heap.size w w' := by
  go_enter Tryz.func143, Tryz.ntmps143
  go_wp2
  all_goals
    go_ret
    exact ⟨ret_bool (by rw [Bool.eq_iff_iff]; simp [spanB]; omega), (Below.refl _ _).alloc (Nat.le_refl _) _⟩
theorem span_is {f t : Int} {b : Bool} (h : spanB f t = b) (w : World) :
    Calls Tryz.prog 143 #[.agg #[.int .i64 f, .int .i64 t]] w fun e w' => e = .returned (.bool b) ∧ Below w.heap.size w w' := by
  subst h; exact span_any f t w

def KeptP (w : World) (a b : Int) (e : Ending) (w' : World) : Prop := e = .returned (.agg #[.int .i64 a, .int .i64 b]) ∧ Below w.heap.size w w'
theorem days_span {f t : Int} : daysB f t = (spanB f t && decide (f ≠ t)) := by rw [Bool.eq_iff_iff]; simp [spanB, daysB]; omega
set_option maxHeartbeats 1000000 in
theorem kept_any (f t : Int) (w : World) :
    Calls Tryz.prog 94 #[.agg #[.int .i64 f, .int .i64 t]] w (KeptP w (keF f t) (keT f t)) := by
  have key : ∀ (b c : Bool), spanB f t = b → decide (f = t) = c → Calls Tryz.prog 94 #[.agg #[.int .i64 f, .int .i64 t]] w (KeptP w (if b && !c then f else 0) (if b && !c then t else 0)) := by
    intro b c hs hc0
    have HS := hide hs
    clear hs
    have hq : (f == t) = c := by rw [← hc0]; rfl
    clear hc0
    cases b <;> cases c
    all_goals
      go_enter Tryz.func94, Tryz.ntmps94
      go_wp2_with fail
      refine (span_is HS.out _).mono ?_
      rintro e w1 ⟨rfl, h1⟩
      obtain ⟨hc, hf⟩ := bcell h1
      have hz : w.heap.size + 1 < w1.heap.size := by have := h1.size; simp at this; omega
      have hB : Blk w1 (w.heap.size + 1) 57 #[.int .i64 0, .int .i64 0] := (Blk.new' (by simp)).below h1 (by simp)
      have H1 := hide (chain1 (chain1 h1))
      clear h1
      go_wp2_with fail
      exact ret_row rfl rfl rfl ((hB.set_ 0 _).set_ 1 _) Tryz.underlying57 rfl (by kernel_rfl) ⟨rfl, (H1.out.setCell (by simp) _).setCell (by simp) _⟩
  have := key _ _ rfl rfl
  unfold keF keT
  rw [days_span]
  simpa using this

def manyI (f t : Int) : Int := keT f t - keF f t
set_option maxHeartbeats 1000000 in
theorem many_any (f t : Int) (w : World) :
    Calls Tryz.prog 73 #[.agg #[.int .i64 f, .int .i64 t]] w fun e w' => e = .returned (.int .i64 (manyI f t)) ∧ Below w.heap.size w w' := by
  have hke := ke_bd f t
  go_enter Tryz.func73, Tryz.ntmps73
  go_wp2_with fail
  refine (kept_any f t _).mono ?_
  rintro e w1 ⟨rfl, h1⟩
  obtain ⟨hc, hf⟩ := bcell h1
  have hz : w.heap.size < w1.heap.size := by have := h1.size; simp at this; omega
  have H1 := hide (chain1 h1)
  clear h1
  obtain ⟨a, ha⟩ : ∃ a, keF f t = a := ⟨_, rfl⟩
  obtain ⟨b, hb⟩ : ∃ b, keT f t = b := ⟨_, rfl⟩
  have HM := hide (show manyI f t = b - a by rw [manyI, ha, hb])
  rw [ha, hb] at hke ⊢
  clear ha hb
  go_wp2_with fail
  go_ret
  exact ⟨ret_int HM.out.symm, (H1.out.setCell (by simp) _).setCell (by simp) _⟩
set_option maxHeartbeats 1000000 in
theorem in_any (f t d : Int) (w : World) :
    Calls Tryz.prog 52 #[.agg #[.int .i64 f, .int .i64 t], .int .i64 d] w fun e w' => e = .returned (.bool (inB f t d)) ∧ Below w.heap.size w w' := by
  have HM := hide (show inB f t d = decide (keF f t ≤ d ∧ d < keT f t) by
    rw [Bool.eq_iff_iff]; simp only [inB, keF, keT, Bool.and_eq_true, decide_eq_true_eq]
    split
    · rename_i h; simp [h]
    · rename_i h; simp [h]; try omega)
  go_enter Tryz.func52, Tryz.ntmps52
  go_wp2_with fail
  refine (kept_any f t _).mono ?_
  rintro e w1 ⟨rfl, h1⟩
  obtain ⟨hc, hf⟩ := bcell h1
  have hz : w.heap.size < w1.heap.size := by have := h1.size; simp at this; omega
  have H1 := hide (chain1 h1)
  clear h1
  obtain ⟨a, ha⟩ : ∃ a, keF f t = a := ⟨_, rfl⟩
  obtain ⟨b, hb⟩ : ∃ b, keT f t = b := ⟨_, rfl⟩
  rw [ha, hb] at HM ⊢
  clear ha hb
  go_wp2_with fail
  all_goals
    go_ret
    exact ⟨ret_bool (by rw [HM.out, Bool.eq_iff_iff]; simp; try omega), (H1.out.setCell (by simp) _).setCell (by simp) _⟩

/-- Is a list of whole numbers sorted. -/
def sortB : List Int → Bool
  | [] => true
  | [_] => true
  | a :: b :: r => decide (a ≤ b) && sortB (b :: r)
theorem sortB_drop {l : List Int} {k : Nat} {x y : Int} (hx : l[k]? = some x) (hy : l[k + 1]? = some y) : sortB (l.drop k) = (decide (x ≤ y) && sortB (l.drop (k + 1))) := by
  rw [drop_of hx, drop_of hy, sortB]
theorem sortB_false {l : List Int} {k : Nat} (h : sortB (l.drop k) = false) : ∀ j, k = j → sortB l = false := by
  intro j hj
  subst hj
  induction k generalizing l with
  | zero => simpa using h
  | succ k ih =>
    cases l with
    | nil => simp [sortB] at h
    | cons a r =>
      have h1 := ih (l := r) (by simpa using h)
      cases r with
      | nil => simp [sortB] at h1
      | cons b r => rw [sortB, h1]; simp

set_option maxHeartbeats 1000000 in
theorem sorted_any (A : Option Addr) (n cap : Nat) (l : List Int) (w : World) (hs : SV w 1 A n cap (l.map encI)) :
    Calls Tryz.prog 127 #[.slice A n cap] w fun e w' => e = .returned (.bool (sortB l)) ∧ Below w.heap.size w w' := by
  have hn : l.length = n := by have := hs.len; simpa using this
  have hle := hs.le
  have hmo := hs.most
  unfold maxLen at hmo
  have HN := hide hn
  have HS := hide hs
  clear hn hs
  go_enter Tryz.func127, Tryz.ntmps127
  have hz : ∃ z : Int, z = (n : Int) - 1 := ⟨_, rfl⟩
  obtain ⟨z, hz⟩ := hz
  have hw : IntKind.i64.wrap ((n : Int) - 1) = z := by rw [IntWalk.i64_in _ (by omega)]; omega
  have hzb : -1 ≤ z ∧ z < n := by omega
  have h0 : sortB (l.drop z.toNat) = true := by
    have : l.length - z.toNat ≤ 1 := by rw [HN.out]; omega
    have h2 : (l.drop z.toNat).length ≤ 1 := by simpa using this
    match l.drop z.toNat, h2 with
    | [], _ => rfl
    | [_], _ => rfl
  have H0 := hide h0
  clear hz h0
  go_wp2_with fail
  clear hw
  go_loopw [3] (fun q wr => ∃ z : Int, -1 ≤ z ∧ z < n ∧ q = .int .i64 z ∧ sortB (l.drop z.toNat) = true ∧ Below w.heap.size w wr) (fun q _ => (RowKit.intOf q).toNat)
  case atStart => exact ⟨z, hzb.1, hzb.2, rfl, H0.out, Below.refl _ _⟩
  case round =>
    clear H0 hzb
    obtain ⟨y, hy0, hy1, rfl, hso, hb⟩ := hrel
    have HSO := hide hso
    have HB := hide hb
    by_cases hy : 0 < y
    · obtain ⟨k, rfl⟩ : ∃ k : Nat, y = k := ⟨y.toNat, by omega⟩
      obtain ⟨x, hx⟩ := get_of (l := l) (k := k) (by rw [HN.out]; omega)
      obtain ⟨u, hu⟩ := get_of (l := l) (k := k - 1) (by rw [HN.out]; omega)
      obtain ⟨b, off, rfl, hbl, c0⟩ := (HS.out.below hb).sl.i hx
      obtain ⟨b', off', hA, _, c1⟩ := (HS.out.below hb).sl.i hu
      obtain ⟨rfl, rfl⟩ : b = b' ∧ off = off' := by simpa using hA
      have HD := hide (sortB_drop (k := k - 1) hu (by rw [Nat.sub_add_cancel (by omega)]; exact hx))
      have hw : IntKind.i64.wrap ((k : Int) - 1) = ((k - 1 : Nat) : Int) := by rw [IntWalk.i64_in _ (by omega)]; omega
      have hk0 : (0 : Int) ≤ ((k - 1 : Nat) : Int) := by omega
      have hk1 : ((k - 1 : Nat) : Int) < (n : Int) := by omega
      have hk2 : (0 : Int) ≤ (k : Int) := by omega
      have hk3 : (k : Int) < (n : Int) := by omega
      clear hx hu hA hso hb
      by_cases hlt : x < u
      all_goals
        go_wp2_with fail
        refine wp_region_class (fun W => Below wr.heap.size wr W) (by kernel_rfl) (by kernel_rfl) (Below.refl _ _).drew ?_
        repeat (first
          | go_big_quiet_skip
          | (go_big_quiet_want
             first
               | (go_big_quiet_op
                  go_big_quiet_on)
               | (refine quiet_call (v := .bool (decide (x < u))) (f := 177) (args := #[.int .i64 x, .int .i64 u]) ?_ ?_ ?_
                  · intro W hW
                    have c0 := kept hW c0
                    have c1 := kept hW c1
                    clear hW
                    go_simp
                    done
                  · intro W hW
                    exact (less_any x u W).mono fun e w'' h => ⟨h.1, h.2 ▸ hW⟩
                  simp only [Act.put, List.setIfInBounds_toArray, List.set_cons_zero, List.set_cons_succ]
                  go_big_quiet_on)
               | (refine quiet_yield (v := ?_) ?_ ?_
                  rotate_left
                  · intro W hW
                    have c0 := kept hW c0
                    have c1 := kept hW c1
                    clear hW
                    go_simp
                    try with_reducible rfl
                  simp only [Act.put, List.setIfInBounds_toArray, List.set_cons_zero, List.set_cons_succ]
                  go_big_quiet_on)))
        refine wpQuiet_nil ?_
        intro W hW
        have HW := hide (chain HB.out hW)
        clear hW c0 c1
        go_wp2_with fail
      · have H1 := hide (show sortB l = false from sortB_false (k := k - 1) (by rw [HD.out]; simp; omega) _ rfl)
        go_ret
        exact ⟨ret_bool H1.out.symm, HW.out⟩
      · go_roundw
        case rel => exact ⟨((k - 1 : Nat) : Int), by omega, by omega, by simp, by
          have := HSO.out
          rw [Int.toNat_natCast, HD.out, show k - 1 + 1 = k by omega]
          simp only [Int.toNat_natCast] at this
          rw [this]; simp; omega, HW.out⟩
        case measure => simp [RowKit.intOf]; omega
    · have hq : ¬ (0 : Int) < y := hy
      have H1 := hide (show sortB l = true by have := HSO.out; rw [show y.toNat = 0 by omega] at this; simpa using this)
      clear hso hb
      go_wp2_with fail
      go_ret
      exact ⟨ret_bool H1.out.symm, HB.out⟩
end Go.Proofs.YtmfohnchnbgbaaaGreat

/- Covers and terms: whether they may be. -/
namespace Go.Proofs.YtmfohnchnbgbaaaGreat
open Go.RowKit

theorem sv_ints {w : World} {g : Nat} {l : List Int} (hB : Blk w g 3 (l.map fun n => Value.int .i64 n).toArray) (hm : l.length ≤ maxLen) : SV w 1 (some ⟨g, 0, none⟩) l.length l.length (l.map encI) :=
  ⟨fun i row hr => by
    rw [List.getElem?_map] at hr
    obtain ⟨x, hx, rfl⟩ := Option.map_eq_some_iff.1 hr
    refine ⟨g, 0, rfl, hB.lt, fun j u hu => ?_⟩
    match j, hu with
    | 0, hu =>
      simp [encI] at hu
      subst hu
      rw [Nat.zero_add, Nat.mul_one, Nat.add_zero, hB.cell i, List.getElem?_toArray, List.getElem?_map, hx]
      rfl, by rw [List.length_map], Nat.le_refl _, hm, fun h => by cases h⟩

/-- A cover. -/
structure Cv where
  p : Int
  lim : Int
  agg : Int
  ded : Int
  sh : Int
def encCv (c : Cv) : List Value := [.int .i64 c.p, .int .i64 c.lim, .int .i64 c.agg, .int .i64 c.ded, .int .i64 c.sh]
def okCv (c : Cv) : Prop := ok64 c.p ∧ ok64 c.lim ∧ ok64 c.agg ∧ ok64 c.ded ∧ ok64 c.sh
def coverB (c : Cv) : Bool := decide (0 ≤ c.p ∧ c.p < 8 ∧ 1 ≤ c.sh ∧ c.sh ≤ 10000 ∧ 0 ≤ c.ded ∧ c.ded < c.lim ∧ c.lim ≤ c.agg ∧ c.agg ≤ 1000000000000000)

theorem wrap64_pred {l : Int} (h : -9223372036854775808 ≤ l ∧ l ≤ 9223372036854775807) : wrap64 (l - 1) = if l = -9223372036854775808 then 9223372036854775807 else l - 1 := by
  split
  · rename_i e; subst e; decide +kernel
  · exact IntWalk.wrap64_in _ (by omega)
theorem five_any (g : Nat) (a b c d e : Int) (w : World) (hB : Blk w g 3 #[.int .i64 a, .int .i64 b, .int .i64 c, .int .i64 d, .int .i64 e]) :
    Calls Tryz.prog 127 #[.slice (some ⟨g, 0, none⟩) 5 5] w fun en w' => en = .returned (.bool (sortB [a, b, c, d, e])) ∧ Below w.heap.size w w' :=
  sorted_any (some ⟨g, 0, none⟩) 5 5 [a, b, c, d, e] w (sv_ints (l := [a, b, c, d, e]) hB (by simp [maxLen]))

set_option maxRecDepth 100000 in
set_option maxHeartbeats 1000000 in
theorem cover_any (c : Cv) (hc : okCv c) (w : World) :
    Calls Tryz.prog 65 #[.agg #[.int .i64 c.p, .int .i64 c.lim, .int .i64 c.agg, .int .i64 c.ded, .int .i64 c.sh]] w fun e w' => e = .returned (.bool (coverB c)) ∧ Below w.heap.size w w' := by
  obtain ⟨p, l, a, d, s⟩ := c
  obtain ⟨-, h1, h2, -, -⟩ := hc
  unfold ok64 at h1 h2
  simp only at h1 h2 ⊢
  by_cases hps : (0 ≤ p ∧ p < 8) ∧ 1 ≤ s ∧ s ≤ 10000
  case neg =>
    have hF := hide (show coverB ⟨p, l, a, d, s⟩ = false by simp only [coverB, decide_eq_false_iff_not]; omega)
    go_enter Tryz.func65, Tryz.ntmps65
    go_wp2
    all_goals first
      | (exfalso; omega)
      | (go_ret
         exact ⟨ret_bool hF.out.symm, (Below.refl _ _).alloc (Nat.le_refl _) _⟩)
  obtain ⟨⟨hp1, hp2⟩, hs1, hs2⟩ := hps
  go_enter Tryz.func65, Tryz.ntmps65
  go_wp2_with fail
  have hB := hide (show coverB ⟨p, l, a, d, s⟩ = (sortB [0, d, wrap64 (l - 1), wrap64 (a - 1), 999999999999999] && decide (d < l)) by
    rw [wrap64_pred h1, wrap64_pred h2, Bool.eq_iff_iff]
    split <;> split
    all_goals
      simp [coverB, sortB]
      omega)
  refine (five_any (w.heap.size + 1) 0 d (wrap64 (l - 1)) (wrap64 (a - 1)) 999999999999999 _ (Blk.new' (by simp))).mono ?_
  rintro e w1 ⟨rfl, hb1⟩
  obtain ⟨hc, hf⟩ := bcell hb1
  have H1 := hide (chain1 (chain1 hb1))
  have k1 := kept hb1 (b := w.heap.size) (o := 3) (u := .int .i64 d) (by simp)
  have k2 := kept hb1 (b := w.heap.size) (o := 1) (u := .int .i64 l) (by simp)
  obtain ⟨B, hBB⟩ : ∃ B, sortB [0, d, wrap64 (l - 1), wrap64 (a - 1), 999999999999999] = B := ⟨_, rfl⟩
  rw [hBB] at hB ⊢
  clear hBB hb1 hc hf
  cases B
  all_goals
    go_wp2_with fail
    all_goals
      go_ret
      exact ⟨ret_bool (by rw [hB.out]; simp), H1.out⟩
end Go.Proofs.YtmfohnchnbgbaaaGreat

/- Terms: whether covers, and terms, may be. -/
namespace Go.Proofs.YtmfohnchnbgbaaaGreat
open Go.RowKit

theorem Sl.cv {w : World} {B k : Nat} {A : Option Addr} {l : List Cv} {c : Cv} (h : Sl w B 5 A (l.map encCv)) (hx : l[k]? = some c) :
    ∃ b off, A = some ⟨b, off, none⟩ ∧ b < B ∧ w.cell? ⟨b, off + k * 5, none⟩ = some (.int .i64 c.p) ∧ w.cell? ⟨b, off + k * 5 + 1, none⟩ = some (.int .i64 c.lim) ∧ w.cell? ⟨b, off + k * 5 + 2, none⟩ = some (.int .i64 c.agg) ∧ w.cell? ⟨b, off + k * 5 + 3, none⟩ = some (.int .i64 c.ded) ∧ w.cell? ⟨b, off + k * 5 + 4, none⟩ = some (.int .i64 c.sh) := by
  obtain ⟨b, off, hA, hb, hc⟩ := h k (encCv c) (by simp [hx])
  exact ⟨b, off, hA, hb, by simpa using hc 0 _ rfl, hc 1 _ rfl, hc 2 _ rfl, hc 3 _ rfl, hc 4 _ rfl⟩
end Go.Proofs.YtmfohnchnbgbaaaGreat

/- Terms: whether all that is asked is so; whether terms may be. -/
namespace Go.Proofs.YtmfohnchnbgbaaaGreat
open Go.RowKit

structure AllW (w : World) (g k : Nat) (wx : World) : Prop where
  a : Blk wx w.heap.size 293 #[.slice (some ⟨g, 0, none⟩) 4 4]
  o : Blk wx (w.heap.size + 1) 4 #[.bool false]
  n : Blk wx (w.heap.size + 1 + 1) 3 #[.int .i64 k]
  b : Below w.heap.size w wx
theorem AllW.below {w wx wy : World} {g k : Nat} (h : AllW w g k wx) (hb : Below wx.heap.size wx wy) : AllW w g k wy := ⟨h.a.below hb h.a.lt, h.o.below hb h.o.lt, h.n.below hb h.n.lt, chain h.b hb⟩
/-- What a policy says. -/
structure Tm where
  f : Int
  t : Int
  k : Int
  v : Int
  a : Int
  z : Int
  A : Option Addr
  l : List Cv
  cap : Nat
section
variable {w : World} {g : Nat} {x : Tm}
end
end Go.Proofs.YtmfohnchnbgbaaaGreat

/- Bands: the contracts of the program's and the document's functions, as in layer 6. -/
namespace Go.Proofs.YtmfohnchnbgbaaaGreat
open Go.RowKit

abbrev Bd := Int × Int
def encBd (x : Bd) : List Value := [.int .i64 x.1, .int .i64 x.2]
theorem Sl.bd {w : World} {B k : Nat} {A : Option Addr} {l : List Bd} {u p : Int} (h : Sl w B 2 A (l.map encBd)) (hx : l[k]? = some (u, p)) :
    ∃ b off, A = some ⟨b, off, none⟩ ∧ b < B ∧ w.cell? ⟨b, off + k * 2, none⟩ = some (.int .i64 u) ∧ w.cell? ⟨b, off + k * 2 + 1, none⟩ = some (.int .i64 p) := by
  obtain ⟨b, off, hA, hb, hc⟩ := h k (encBd (u, p)) (by simp [hx])
  exact ⟨b, off, hA, hb, hc 0 _ rfl, hc 1 _ rfl⟩

end Go.Proofs.YtmfohnchnbgbaaaGreat

/- Versions and tariffs: how they lie; whether numbers may be factors. -/
namespace Go.Proofs.YtmfohnchnbgbaaaGreat
open Go.ChangeShapes Go.WideShapes Go.ChangeAt Go.RowKit

/-- A version, where it lies. -/
structure Vw where
  f : Int
  b0 : Int
  b1 : Int
  b2 : Int
  b3 : Int
  aA : Option Addr
  age : List Bd
  aC : Nat
  zA : Option Addr
  zone : List Int
  zC : Nat
  pA : Option Addr
  peril : List Int
  pC : Nat
  mn : Int
def encV (v : Vw) : List Value := [.int .i64 v.f, .int .i64 v.b0, .int .i64 v.b1, .int .i64 v.b2, .int .i64 v.b3, .slice v.aA v.age.length v.aC, .slice v.zA v.zone.length v.zC, .slice v.pA v.peril.length v.pC, .int .i64 v.mn]
/-- A version. -/
structure Ver where
  f : Int
  b0 : Int
  b1 : Int
  b2 : Int
  b3 : Int
  age : List Bd
  zone : List Int
  peril : List Int
  mn : Int
def Vw.v (x : Vw) : Ver := ⟨x.f, x.b0, x.b1, x.b2, x.b3, x.age, x.zone, x.peril, x.mn⟩
structure VOK (w : World) (v : Vw) : Prop where
  age : SV w 2 v.aA v.age.length v.aC (v.age.map encBd)
  zone : SV w 1 v.zA v.zone.length v.zC (v.zone.map encI)
  peril : SV w 1 v.pA v.peril.length v.pC (v.peril.map encI)
theorem VOK.below {w w' : World} {v : Vw} (h : VOK w v) (hb : Below w.heap.size w w') : VOK w' v := ⟨h.age.below hb, h.zone.below hb, h.peril.below hb⟩
/-- A slice of versions. -/
structure TV (w : World) (A : Option Addr) (n cap : Nat) (M : List Vw) : Prop where
  sv : SV w 9 A n cap (M.map encV)
  rows : ∀ v ∈ M, VOK w v
theorem TV.below {w w' : World} {A : Option Addr} {n cap : Nat} {M : List Vw} (h : TV w A n cap M) (hb : Below w.heap.size w w') : TV w' A n cap M := ⟨h.sv.below hb, fun v hv => (h.rows v hv).below hb⟩
theorem TV.len {w : World} {A : Option Addr} {n cap : Nat} {M : List Vw} (h : TV w A n cap M) : M.length = n := by have := h.sv.len; simpa using this
section
variable {H : Type} {enc : TypeId × Value → H} {W : World} {r : Reach} {b0 : Nat} {v : Value} {d : DataW H} {p : List MemPlace}
end

/-! ### Factors -/
end Go.Proofs.YtmfohnchnbgbaaaGreat

/- Whether a version may be: the program's and the document's answer. -/
namespace Go.Proofs.YtmfohnchnbgbaaaGreat
open Go.RowKit

def boxV (x : Vw) : Array Value := #[.int .i64 x.f, .int .i64 x.b0, .int .i64 x.b1, .int .i64 x.b2, .int .i64 x.b3, .slice x.aA x.age.length x.aC, .slice x.zA x.zone.length x.zC, .slice x.pA x.peril.length x.pC, .int .i64 x.mn]
end Go.Proofs.YtmfohnchnbgbaaaGreat

/- Bits: the length of a number, its leading zeros, a product of two words. (The first two were filled out of the shelf's templates.) -/
namespace Go.Proofs.YtmfohnchnbgbaaaGreat
open Go.RowKit

theorem tab_at (i : Int) (h0 : 0 ≤ i) (h1 : i ≤ 255) {h : i.toNat < Go.Lib.len8tab.size} : (((Go.Lib.len8tab[i.toNat]'h).toNat : Nat) : Int) = (Go.Lib.bitLen i.toNat : Int) := by
  rw [← Go.Lib.len8_of i h0 h1, Go.Lib.len8, getElem?_pos Go.Lib.len8tab i.toNat h]
  rfl
theorem wrap_small {n : Int} (h0 : 0 ≤ n) (h1 : n ≤ 100) : wrap64 n = n := by unfold wrap64; omega
theorem len_fin {x c k : Nat} {i : Int} {h : i.toNat < Go.Lib.len8tab.size} (h0 : 0 ≤ i) (h1 : i ≤ 255) (hc : c ≤ 56) (hi : i.toNat = k) (hs : Go.Lib.bitLen x = c + Go.Lib.bitLen k) : wrap64 ((c : Int) + wrap64 (((Go.Lib.len8tab[i.toNat]'h).toNat : Nat) : Int)) = (Go.Lib.bitLen x : Int) := by
  have l := Go.Lib.bitLen_le8' i h0 h1
  rw [tab_at i h0 h1, hs, ← hi]
  rw [wrap_small (n := (Go.Lib.bitLen i.toNat : Int)) (by omega) (by omega), wrap_small (by omega) (by omega)]
  omega
theorem len_fin0 {i : Int} {h : i.toNat < Go.Lib.len8tab.size} (h0 : 0 ≤ i) (h1 : i ≤ 255) : wrap64 (wrap64 (((Go.Lib.len8tab[i.toNat]'h).toNat : Nat) : Int)) = (Go.Lib.bitLen i.toNat : Int) := by
  have l := Go.Lib.bitLen_le8' i h0 h1
  rw [tab_at i h0 h1, wrap_small (n := (Go.Lib.bitLen i.toNat : Int)) (by omega) (by omega), wrap_small (by omega) (by omega)]
set_option maxHeartbeats 1000000 in
set_option maxRecDepth 100000 in
theorem len64_any (x : Int) (w : World) (h0 : 0 ≤ x) (h1 : x ≤ 18446744073709551615) :
    Calls Tryz.prog 195 #[.int .u64 x] w fun e w' => e = .returned (.int .i64 (Go.Lib.bitLen x.toNat)) ∧ w' = w := by
  have hsz : ((Go.Lib.len8tab.size : Nat) : Int) = 256 := by rw [Go.Lib.len8tab_size]; rfl
  go_enter Tryz.func195, Tryz.ntmps195
  go_wp2
  all_goals (go_ret; refine ⟨congrArg Ending.returned (congrArg (Value.int IntKind.i64) ?_), rfl⟩)
  · exact len_fin (c := 56) (k := x.toNat / 72057594037927936) (by omega) (by omega) (by omega) (by omega) (Go.Lib.bitLen_shift56 x.toNat (by omega) (by omega))
  · exact len_fin (c := 48) (k := x.toNat / 281474976710656) (by omega) (by omega) (by omega) (by omega) (Go.Lib.bitLen_shift48 x.toNat (by omega) (by omega))
  · exact len_fin (c := 40) (k := x.toNat / 1099511627776) (by omega) (by omega) (by omega) (by omega) (Go.Lib.bitLen_shift40 x.toNat (by omega) (by omega))
  · exact len_fin (c := 32) (k := x.toNat / 4294967296) (by omega) (by omega) (by omega) (by omega) (Go.Lib.bitLen_shift32 x.toNat (by omega) (by omega))
  · exact len_fin (c := 24) (k := x.toNat / 16777216) (by omega) (by omega) (by omega) (by omega) (Go.Lib.bitLen_shift24 x.toNat (by omega) (by omega))
  · exact len_fin (c := 16) (k := x.toNat / 65536) (by omega) (by omega) (by omega) (by omega) (Go.Lib.bitLen_shift16 x.toNat (by omega) (by omega))
  · exact len_fin (c := 8) (k := x.toNat / 256) (by omega) (by omega) (by omega) (by omega) (Go.Lib.bitLen_shift8 x.toNat (by omega) (by omega))
  · exact len_fin0 (by omega) (by omega)

theorem bitLen_le64 (x : Int) (h0 : 0 ≤ x) (h1 : x ≤ 18446744073709551615) : Go.Lib.bitLen x.toNat ≤ 64 := Go.Lib.bitLen_le x.toNat 64 (by omega) (by omega)

theorem lz64_any (x : Int) (w : World) (h0 : 0 ≤ x) (h1 : x ≤ 18446744073709551615) :
    Calls Tryz.prog 158 #[.int .u64 x] w fun e w' => e = .returned (.int .i64 (64 - (Go.Lib.bitLen x.toNat : Int))) ∧ w' = w := by
  have l := bitLen_le64 x h0 h1
  have e8 : (64 - (Go.Lib.bitLen x.toNat : Int) + 9223372036854775808) % 18446744073709551616 - 9223372036854775808 = 64 - (Go.Lib.bitLen x.toNat : Int) := by omega
  go_enter Tryz.func158, Tryz.ntmps158
  go_wp2_with (go_at_call 195; refine (len64_any x _ h0 h1).mono ?_; rintro e w' ⟨rfl, rfl⟩)
  go_ret
  refine ⟨?_, rfl⟩
  rw [← e8]
  rfl


set_option maxHeartbeats 1000000 in
theorem mul64_any (x y : Nat) (hx : x < 18446744073709551616) (hy : y < 18446744073709551616) (w : World) :
    Calls Tryz.prog 100 #[.int .u64 x, .int .u64 y] w fun e w' => e = .returned (.tuple #[.int .u64 ((x * y / 18446744073709551616 : Nat) : Int), .int .u64 ((x * y % 18446744073709551616 : Nat) : Int)]) ∧ w' = w := by
  obtain ⟨g1, g2, g3, g4⟩ := Go.Lib.mul64_hi x y hx hy
  have a1 := Go.Lib.half_mul_le (a := x / 4294967296) (b := y / 4294967296) (by omega) (by omega)
  have a2 := Go.Lib.half_mul_le (a := x / 4294967296) (b := y % 4294967296) (by omega) (by omega)
  have a3 := Go.Lib.half_mul_le (a := x % 4294967296) (b := y / 4294967296) (by omega) (by omega)
  have b1 : x / 4294967296 * (y / 4294967296) < 18446744073709551616 := by omega
  have b2 : x / 4294967296 * (y % 4294967296) < 18446744073709551616 := by omega
  have b3 : x % 4294967296 * (y / 4294967296) < 18446744073709551616 := by omega
  have hq : x * y / 18446744073709551616 < 18446744073709551616 := by
    refine Nat.div_lt_of_lt_mul ?_
    exact Nat.mul_lt_mul'' hx hy
  have h8 : x / 4294967296 * (y / 4294967296) + (x / 4294967296 * (y % 4294967296) + x % 4294967296 * (y % 4294967296) / 4294967296) / 4294967296 + ((x / 4294967296 * (y % 4294967296) + x % 4294967296 * (y % 4294967296) / 4294967296) % 4294967296 + x % 4294967296 * (y / 4294967296)) / 4294967296 < 18446744073709551616 := by rw [g4]; exact hq
  have h9 : x / 4294967296 * (y / 4294967296) + (x / 4294967296 * (y % 4294967296) + x % 4294967296 * (y % 4294967296) / 4294967296) / 4294967296 < 18446744073709551616 := Nat.lt_of_le_of_lt (Nat.le_add_right _ _) h8
  go_enter Tryz.func100, Tryz.ntmps100
  go_wp2
  simp only [Mul64.maskN x hx, Mul64.maskN y hy, Mul64.divN, Mul64.mulN, Mul64.addN, Mul64.wrapN _ g1, Mul64.wrapN _ b2, Mul64.wrapN _ g2, Mul64.maskN _ g2, Mul64.wrapN _ b3, Mul64.wrapN _ g3, Mul64.wrapN _ b1, Mul64.wrapN _ h9, Mul64.wrapN _ h8, Mul64.wrapM (x * y)]
  rw [g4]
  go_ret2
  exact ⟨rfl, rfl⟩

theorem bitLen_spec : ∀ (x : Nat), x ≠ 0 → x < 2 ^ 64 → 2 ^ (Go.Lib.bitLen x - 1) ≤ x ∧ x < 2 ^ Go.Lib.bitLen x ∧ 1 ≤ Go.Lib.bitLen x := by
  intro x
  induction x using Nat.strongRecOn with
  | _ x ih =>
    intro h0 h
    rw [Go.Lib.bitLen_half x h0 h]
    rcases Nat.eq_zero_or_pos (x / 2) with h2 | h2
    · rw [h2]
      have : x = 1 := by omega
      subst this
      decide
    · obtain ⟨i1, i2, i3⟩ := ih (x / 2) (by omega) (by omega) (by omega)
      obtain ⟨n, hn⟩ : ∃ n, Go.Lib.bitLen (x / 2) = n + 1 := ⟨Go.Lib.bitLen (x / 2) - 1, by omega⟩
      rw [hn] at i1 i2 ⊢
      have e1 : 1 + (n + 1) - 1 = n + 1 := by omega
      rw [e1]
      rw [Nat.add_sub_cancel] at i1
      refine ⟨?_, ?_, by omega⟩
      · rw [Nat.pow_succ]; omega
      · rw [Nat.add_comm 1, Nat.pow_succ 2 (n + 1)]; omega
/-- A number moved up as far as it goes. -/
theorem shift_up {y : Nat} (h0 : y ≠ 0) (h : y < 2 ^ 64) : 9223372036854775808 ≤ y * 2 ^ (64 - Go.Lib.bitLen y) ∧ y * 2 ^ (64 - Go.Lib.bitLen y) < 18446744073709551616 := by
  obtain ⟨h1, h2, h3⟩ := bitLen_spec y h0 h
  have h4 : Go.Lib.bitLen y ≤ 64 := Go.Lib.bitLen_le y 64 (by omega) h
  have hp : 0 < 2 ^ (64 - Go.Lib.bitLen y) := Nat.two_pow_pos _
  constructor
  · have := Nat.mul_le_mul_right (2 ^ (64 - Go.Lib.bitLen y)) h1
    rw [← Nat.pow_add, show Go.Lib.bitLen y - 1 + (64 - Go.Lib.bitLen y) = 63 by omega] at this
    exact this
  · have := Nat.mul_lt_mul_of_pos_right h2 hp
    rw [← Nat.pow_add, show Go.Lib.bitLen y + (64 - Go.Lib.bitLen y) = 64 by omega] at this
    exact this
end Go.Proofs.YtmfohnchnbgbaaaGreat
