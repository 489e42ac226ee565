/- Part 5 of the proof. -/
import Derived.Deep.RegionHeld3
import Derived.Deep.QuietTactic
import Derived.Defers
import Derived.Recover
import Derived.Test.YtmfohnchnbgbaaaGreatDoorYpM04
/- Spans, covers, whether a list of whole numbers is sorted: small functions of the program; each answer is a value. -/
namespace Go.Proofs.YtmfohnchnbgbaaaGreatDoor
open Go.RowKit

theorem nan_any (n : Int) (w : World) : Calls Tryz.prog 102 #[.int .i64 n] w fun e w' => e = .returned (.bool false) ∧ w = w' := by
  go_enter Tryz.func102, Tryz.ntmps102
  go_wp2
  all_goals
    go_ret
    exact ⟨rfl, rfl⟩
theorem less_any (a b : Int) (w : World) : Calls Tryz.prog 147 #[.int .i64 a, .int .i64 b] w fun e w' => e = .returned (.bool (decide (a < b))) ∧ w = w' := by
  go_enter Tryz.func147, Tryz.ntmps147
  go_wp2_with (go_at_call 102; refine (nan_any _ _).mono ?_; rintro e w' ⟨rfl, rfl⟩)
  all_goals
    go_ret
    exact ⟨ret_bool (by simp), rfl⟩

/-- Is a span right; has it days. -/
def spanB (f t : Int) : Bool := decide (1 ≤ f ∧ f ≤ t ∧ t ≤ 292195)
def daysB (f t : Int) : Bool := decide (1 ≤ f ∧ f < t ∧ t ≤ 292195)
def keF (f t : Int) : Int := if daysB f t = true then f else 0
def keT (f t : Int) : Int := if daysB f t = true then t else 0
def inB (f t d : Int) : Bool := daysB f t && decide (f ≤ d ∧ d < t)
theorem ke_bd (f t : Int) : 0 ≤ keF f t ∧ keF f t ≤ keT f t ∧ keT f t ≤ 292195 := by
  unfold keF keT
  split
  · rename_i h; simp [daysB] at h; omega
  · omega

theorem span_any (f t : Int) (w : World) :
    Calls Tryz.prog 111 #[.agg #[.int .i64 f, .int .i64 t]] w fun e w' => e = .returned (.bool (spanB f t)) ∧ Below w.heap.size w w' := by
  go_enter Tryz.func111, Tryz.ntmps111
  go_wp2
  all_goals
    go_ret
    exact ⟨ret_bool (by rw [Bool.eq_iff_iff]; simp [spanB]; omega), (Below.refl _ _).alloc (Nat.le_refl _) _⟩
theorem span_is {f t : Int} {b : Bool} (h : spanB f t = b) (w : World) :
    Calls Tryz.prog 111 #[.agg #[.int .i64 f, .int .i64 t]] w fun e w' => e = .returned (.bool b) ∧ Below w.heap.size w w' := by
  subst h; exact span_any f t w

def KeptP (w : World) (a b : Int) (e : Ending) (w' : World) : Prop := e = .returned (.agg #[.int .i64 a, .int .i64 b]) ∧ Below w.heap.size w w'
theorem days_span {f t : Int} : daysB f t = (spanB f t && decide (f ≠ t)) := by rw [Bool.eq_iff_iff]; simp [spanB, daysB]; omega
set_option maxHeartbeats 1000000 in
theorem kept_any (f t : Int) (w : World) :
    Calls Tryz.prog 86 #[.agg #[.int .i64 f, .int .i64 t]] w (KeptP w (keF f t) (keT f t)) := by
  have key : ∀ (b c : Bool), spanB f t = b → decide (f = t) = c → Calls Tryz.prog 86 #[.agg #[.int .i64 f, .int .i64 t]] w (KeptP w (if b && !c then f else 0) (if b && !c then t else 0)) := by
    intro b c hs hc0
    have HS := hide hs
    clear hs
    have hq : (f == t) = c := by rw [← hc0]; rfl
    clear hc0
    cases b <;> cases c
    all_goals
      go_enter Tryz.func86, Tryz.ntmps86
      go_wp2_with fail
      refine (span_is HS.out _).mono ?_
      rintro e w1 ⟨rfl, h1⟩
      obtain ⟨hc, hf⟩ := bcell h1
      have hz : w.heap.size + 1 < w1.heap.size := by have := h1.size; simp at this; omega
      have hB : Blk w1 (w.heap.size + 1) 56 #[.int .i64 0, .int .i64 0] := (Blk.new' (by simp)).below h1 (by simp)
      have H1 := hide (chain1 (chain1 h1))
      clear h1
      go_wp2_with fail
      exact ret_row rfl rfl rfl ((hB.set_ 0 _).set_ 1 _) Tryz.underlying56 rfl (by kernel_rfl) ⟨rfl, (H1.out.setCell (by simp) _).setCell (by simp) _⟩
  have := key _ _ rfl rfl
  unfold keF keT
  rw [days_span]
  simpa using this

def manyI (f t : Int) : Int := keT f t - keF f t
set_option maxHeartbeats 1000000 in
theorem many_any (f t : Int) (w : World) :
    Calls Tryz.prog 46 #[.agg #[.int .i64 f, .int .i64 t]] w fun e w' => e = .returned (.int .i64 (manyI f t)) ∧ Below w.heap.size w w' := by
  have hke := ke_bd f t
  go_enter Tryz.func46, Tryz.ntmps46
  go_wp2_with fail
  refine (kept_any f t _).mono ?_
  rintro e w1 ⟨rfl, h1⟩
  obtain ⟨hc, hf⟩ := bcell h1
  have hz : w.heap.size < w1.heap.size := by have := h1.size; simp at this; omega
  have H1 := hide (chain1 h1)
  clear h1
  obtain ⟨a, ha⟩ : ∃ a, keF f t = a := ⟨_, rfl⟩
  obtain ⟨b, hb⟩ : ∃ b, keT f t = b := ⟨_, rfl⟩
  have HM := hide (show manyI f t = b - a by rw [manyI, ha, hb])
  rw [ha, hb] at hke ⊢
  clear ha hb
  go_wp2_with fail
  go_ret
  exact ⟨ret_int HM.out.symm, (H1.out.setCell (by simp) _).setCell (by simp) _⟩
set_option maxHeartbeats 1000000 in
theorem in_any (f t d : Int) (w : World) :
    Calls Tryz.prog 68 #[.agg #[.int .i64 f, .int .i64 t], .int .i64 d] w fun e w' => e = .returned (.bool (inB f t d)) ∧ Below w.heap.size w w' := by
  have HM := hide (show inB f t d = decide (keF f t ≤ d ∧ d < keT f t) by
    rw [Bool.eq_iff_iff]; simp only [inB, keF, keT, Bool.and_eq_true, decide_eq_true_eq]
    split
    · rename_i h; simp [h]
    · rename_i h; simp [h]; try omega)
  go_enter Tryz.func68, Tryz.ntmps68
  go_wp2_with fail
  refine (kept_any f t _).mono ?_
  rintro e w1 ⟨rfl, h1⟩
  obtain ⟨hc, hf⟩ := bcell h1
  have hz : w.heap.size < w1.heap.size := by have := h1.size; simp at this; omega
  have H1 := hide (chain1 h1)
  clear h1
  obtain ⟨a, ha⟩ : ∃ a, keF f t = a := ⟨_, rfl⟩
  obtain ⟨b, hb⟩ : ∃ b, keT f t = b := ⟨_, rfl⟩
  rw [ha, hb] at HM ⊢
  clear ha hb
  go_wp2_with fail
  all_goals
    go_ret
    exact ⟨ret_bool (by rw [HM.out, Bool.eq_iff_iff]; simp; try omega), (H1.out.setCell (by simp) _).setCell (by simp) _⟩

/-- Is a list of whole numbers sorted. -/
def sortB : List Int → Bool
  | [] => true
  | [_] => true
  | a :: b :: r => decide (a ≤ b) && sortB (b :: r)
theorem sortB_drop {l : List Int} {k : Nat} {x y : Int} (hx : l[k]? = some x) (hy : l[k + 1]? = some y) : sortB (l.drop k) = (decide (x ≤ y) && sortB (l.drop (k + 1))) := by
  rw [drop_of hx, drop_of hy, sortB]
theorem sortB_false {l : List Int} {k : Nat} (h : sortB (l.drop k) = false) : ∀ j, k = j → sortB l = false := by
  intro j hj
  subst hj
  induction k generalizing l with
  | zero => simpa using h
  | succ k ih =>
    cases l with
    | nil => simp [sortB] at h
    | cons a r =>
      have h1 := ih (l := r) (by simpa using h)
      cases r with
      | nil => simp [sortB] at h1
      | cons b r => rw [sortB, h1]; simp

set_option maxHeartbeats 1000000 in
theorem sorted_any (A : Option Addr) (n cap : Nat) (l : List Int) (w : World) (hs : SV w 1 A n cap (l.map encI)) :
    Calls Tryz.prog 103 #[.slice A n cap] w fun e w' => e = .returned (.bool (sortB l)) ∧ Below w.heap.size w w' := by
  have hn : l.length = n := by have := hs.len; simpa using this
  have hle := hs.le
  have hmo := hs.most
  unfold maxLen at hmo
  have HN := hide hn
  have HS := hide hs
  clear hn hs
  go_enter Tryz.func103, Tryz.ntmps103
  have hz : ∃ z : Int, z = (n : Int) - 1 := ⟨_, rfl⟩
  obtain ⟨z, hz⟩ := hz
  have hw : IntKind.i64.wrap ((n : Int) - 1) = z := by rw [IntWalk.i64_in _ (by omega)]; omega
  have hzb : -1 ≤ z ∧ z < n := by omega
  have h0 : sortB (l.drop z.toNat) = true := by
    have : l.length - z.toNat ≤ 1 := by rw [HN.out]; omega
    have h2 : (l.drop z.toNat).length ≤ 1 := by simpa using this
    match l.drop z.toNat, h2 with
    | [], _ => rfl
    | [_], _ => rfl
  have H0 := hide h0
  clear hz h0
  go_wp2_with fail
  clear hw
  go_loopw [3] (fun q wr => ∃ z : Int, -1 ≤ z ∧ z < n ∧ q = .int .i64 z ∧ sortB (l.drop z.toNat) = true ∧ Below w.heap.size w wr) (fun q _ => (RowKit.intOf q).toNat)
  case atStart => exact ⟨z, hzb.1, hzb.2, rfl, H0.out, Below.refl _ _⟩
  case round =>
    clear H0 hzb
    obtain ⟨y, hy0, hy1, rfl, hso, hb⟩ := hrel
    have HSO := hide hso
    have HB := hide hb
    by_cases hy : 0 < y
    · obtain ⟨k, rfl⟩ : ∃ k : Nat, y = k := ⟨y.toNat, by omega⟩
      obtain ⟨x, hx⟩ := get_of (l := l) (k := k) (by rw [HN.out]; omega)
      obtain ⟨u, hu⟩ := get_of (l := l) (k := k - 1) (by rw [HN.out]; omega)
      obtain ⟨b, off, rfl, hbl, c0⟩ := (HS.out.below hb).sl.i hx
      obtain ⟨b', off', hA, _, c1⟩ := (HS.out.below hb).sl.i hu
      obtain ⟨rfl, rfl⟩ : b = b' ∧ off = off' := by simpa using hA
      have HD := hide (sortB_drop (k := k - 1) hu (by rw [Nat.sub_add_cancel (by omega)]; exact hx))
      have hw : IntKind.i64.wrap ((k : Int) - 1) = ((k - 1 : Nat) : Int) := by rw [IntWalk.i64_in _ (by omega)]; omega
      have hk0 : (0 : Int) ≤ ((k - 1 : Nat) : Int) := by omega
      have hk1 : ((k - 1 : Nat) : Int) < (n : Int) := by omega
      have hk2 : (0 : Int) ≤ (k : Int) := by omega
      have hk3 : (k : Int) < (n : Int) := by omega
      clear hx hu hA hso hb
      by_cases hlt : x < u
      all_goals
        go_wp2_with fail
        refine wp_region_class (fun W => Below wr.heap.size wr W) (by kernel_rfl) (by kernel_rfl) (Below.refl _ _).drew ?_
        repeat (first
          | go_big_quiet_skip
          | (go_big_quiet_want
             first
               | (go_big_quiet_op
                  go_big_quiet_on)
               | (refine quiet_call (v := .bool (decide (x < u))) (f := 147) (args := #[.int .i64 x, .int .i64 u]) ?_ ?_ ?_
                  · intro W hW
                    have c0 := kept hW c0
                    have c1 := kept hW c1
                    clear hW
                    go_simp
                    done
                  · intro W hW
                    exact (less_any x u W).mono fun e w'' h => ⟨h.1, h.2 ▸ hW⟩
                  simp only [Act.put, List.setIfInBounds_toArray, List.set_cons_zero, List.set_cons_succ]
                  go_big_quiet_on)
               | (refine quiet_yield (v := ?_) ?_ ?_
                  rotate_left
                  · intro W hW
                    have c0 := kept hW c0
                    have c1 := kept hW c1
                    clear hW
                    go_simp
                    try with_reducible rfl
                  simp only [Act.put, List.setIfInBounds_toArray, List.set_cons_zero, List.set_cons_succ]
                  go_big_quiet_on)))
        refine wpQuiet_nil ?_
        intro W hW
        have HW := hide (chain HB.out hW)
        clear hW c0 c1
        go_wp2_with fail
      · have H1 := hide (show sortB l = false from sortB_false (k := k - 1) (by rw [HD.out]; simp; omega) _ rfl)
        go_ret
        exact ⟨ret_bool H1.out.symm, HW.out⟩
      · go_roundw
        case rel => exact ⟨((k - 1 : Nat) : Int), by omega, by omega, by simp, by
          have := HSO.out
          rw [Int.toNat_natCast, HD.out, show k - 1 + 1 = k by omega]
          simp only [Int.toNat_natCast] at this
          rw [this]; simp; omega, HW.out⟩
        case measure => simp [RowKit.intOf]; omega
    · have hq : ¬ (0 : Int) < y := hy
      have H1 := hide (show sortB l = true by have := HSO.out; rw [show y.toNat = 0 by omega] at this; simpa using this)
      clear hso hb
      go_wp2_with fail
      go_ret
      exact ⟨ret_bool H1.out.symm, HB.out⟩
end Go.Proofs.YtmfohnchnbgbaaaGreatDoor

/- Covers and terms: whether they may be. -/
namespace Go.Proofs.YtmfohnchnbgbaaaGreatDoor
open Go.RowKit

theorem sv_ints {w : World} {g : Nat} {l : List Int} (hB : Blk w g 3 (l.map fun n => Value.int .i64 n).toArray) (hm : l.length ≤ maxLen) : SV w 1 (some ⟨g, 0, none⟩) l.length l.length (l.map encI) :=
  ⟨fun i row hr => by
    rw [List.getElem?_map] at hr
    obtain ⟨x, hx, rfl⟩ := Option.map_eq_some_iff.1 hr
    refine ⟨g, 0, rfl, hB.lt, fun j u hu => ?_⟩
    match j, hu with
    | 0, hu =>
      simp [encI] at hu
      subst hu
      rw [Nat.zero_add, Nat.mul_one, Nat.add_zero, hB.cell i, List.getElem?_toArray, List.getElem?_map, hx]
      rfl, by rw [List.length_map], Nat.le_refl _, hm, fun h => by cases h⟩

/-- A cover. -/
structure Cv where
  p : Int
  lim : Int
  agg : Int
  ded : Int
  sh : Int
def encCv (c : Cv) : List Value := [.int .i64 c.p, .int .i64 c.lim, .int .i64 c.agg, .int .i64 c.ded, .int .i64 c.sh]
def okCv (c : Cv) : Prop := ok64 c.p ∧ ok64 c.lim ∧ ok64 c.agg ∧ ok64 c.ded ∧ ok64 c.sh
def coverB (c : Cv) : Bool := decide (0 ≤ c.p ∧ c.p < 8 ∧ 1 ≤ c.sh ∧ c.sh ≤ 10000 ∧ 0 ≤ c.ded ∧ c.ded < c.lim ∧ c.lim ≤ c.agg ∧ c.agg ≤ 1000000000000000)

theorem wrap64_pred {l : Int} (h : -9223372036854775808 ≤ l ∧ l ≤ 9223372036854775807) : wrap64 (l - 1) = if l = -9223372036854775808 then 9223372036854775807 else l - 1 := by
  split
  · rename_i e; subst e; decide +kernel
  · exact IntWalk.wrap64_in _ (by omega)
theorem five_any (g : Nat) (a b c d e : Int) (w : World) (hB : Blk w g 3 #[.int .i64 a, .int .i64 b, .int .i64 c, .int .i64 d, .int .i64 e]) :
    Calls Tryz.prog 103 #[.slice (some ⟨g, 0, none⟩) 5 5] w fun en w' => en = .returned (.bool (sortB [a, b, c, d, e])) ∧ Below w.heap.size w w' :=
  sorted_any (some ⟨g, 0, none⟩) 5 5 [a, b, c, d, e] w (sv_ints (l := [a, b, c, d, e]) hB (by simp [maxLen]))

set_option maxRecDepth 100000 in
set_option maxHeartbeats 1000000 in
theorem cover_any (c : Cv) (hc : okCv c) (w : World) :
    Calls Tryz.prog 58 #[.agg #[.int .i64 c.p, .int .i64 c.lim, .int .i64 c.agg, .int .i64 c.ded, .int .i64 c.sh]] w fun e w' => e = .returned (.bool (coverB c)) ∧ Below w.heap.size w w' := by
  obtain ⟨p, l, a, d, s⟩ := c
  obtain ⟨-, h1, h2, -, -⟩ := hc
  unfold ok64 at h1 h2
  simp only at h1 h2 ⊢
  by_cases hps : (0 ≤ p ∧ p < 8) ∧ 1 ≤ s ∧ s ≤ 10000
  case neg =>
    have hF := hide (show coverB ⟨p, l, a, d, s⟩ = false by simp only [coverB, decide_eq_false_iff_not]; omega)
    go_enter Tryz.func58, Tryz.ntmps58
    go_wp2
    all_goals first
      | (exfalso; omega)
      | (go_ret
         exact ⟨ret_bool hF.out.symm, (Below.refl _ _).alloc (Nat.le_refl _) _⟩)
  obtain ⟨⟨hp1, hp2⟩, hs1, hs2⟩ := hps
  go_enter Tryz.func58, Tryz.ntmps58
  go_wp2_with fail
  have hB := hide (show coverB ⟨p, l, a, d, s⟩ = (sortB [0, d, wrap64 (l - 1), wrap64 (a - 1), 999999999999999] && decide (d < l)) by
    rw [wrap64_pred h1, wrap64_pred h2, Bool.eq_iff_iff]
    split <;> split
    all_goals
      simp [coverB, sortB]
      omega)
  refine (five_any (w.heap.size + 1) 0 d (wrap64 (l - 1)) (wrap64 (a - 1)) 999999999999999 _ (Blk.new' (by simp))).mono ?_
  rintro e w1 ⟨rfl, hb1⟩
  obtain ⟨hc, hf⟩ := bcell hb1
  have H1 := hide (chain1 (chain1 hb1))
  have k1 := kept hb1 (b := w.heap.size) (o := 3) (u := .int .i64 d) (by simp)
  have k2 := kept hb1 (b := w.heap.size) (o := 1) (u := .int .i64 l) (by simp)
  obtain ⟨B, hBB⟩ : ∃ B, sortB [0, d, wrap64 (l - 1), wrap64 (a - 1), 999999999999999] = B := ⟨_, rfl⟩
  rw [hBB] at hB ⊢
  clear hBB hb1 hc hf
  cases B
  all_goals
    go_wp2_with fail
    all_goals
      go_ret
      exact ⟨ret_bool (by rw [hB.out]; simp), H1.out⟩
end Go.Proofs.YtmfohnchnbgbaaaGreatDoor

/- Terms: whether covers, and terms, may be. -/
namespace Go.Proofs.YtmfohnchnbgbaaaGreatDoor
open Go.RowKit

/-- Do covers rise by their perils, and may each be; the last peril. -/
def stepCv (s : Bool × Int) (c : Cv) : Bool × Int := (s.1 && (decide (s.2 < c.p) && coverB c), c.p)
def cst (l : List Cv) : Bool × Int := l.foldl stepCv (true, -1)
def coversB (l : List Cv) : Bool := (cst l).1 && decide (1 ≤ l.length ∧ l.length ≤ 8)
theorem cst_take {l : List Cv} {k : Nat} {c : Cv} (h : l[k]? = some c) : cst (l.take (k + 1)) = stepCv (cst (l.take k)) c := by rw [take_of h, cst, cst, List.foldl_append]; rfl
theorem cst_false : ∀ (l : List Cv) (s : Bool × Int), s.1 = false → (l.foldl stepCv s).1 = false
  | [], _, h => h
  | c :: r, s, h => cst_false r _ (by simp [stepCv, h])
theorem cst_no {l : List Cv} {k : Nat} (h : (cst (l.take k)).1 = false) : (cst l).1 = false := by
  have := cst_false (l.drop k) _ h
  rw [cst, ← List.foldl_append, List.take_append_drop] at this
  exact this
theorem Sl.cv {w : World} {B k : Nat} {A : Option Addr} {l : List Cv} {c : Cv} (h : Sl w B 5 A (l.map encCv)) (hx : l[k]? = some c) :
    ∃ b off, A = some ⟨b, off, none⟩ ∧ b < B ∧ w.cell? ⟨b, off + k * 5, none⟩ = some (.int .i64 c.p) ∧ w.cell? ⟨b, off + k * 5 + 1, none⟩ = some (.int .i64 c.lim) ∧ w.cell? ⟨b, off + k * 5 + 2, none⟩ = some (.int .i64 c.agg) ∧ w.cell? ⟨b, off + k * 5 + 3, none⟩ = some (.int .i64 c.ded) ∧ w.cell? ⟨b, off + k * 5 + 4, none⟩ = some (.int .i64 c.sh) := by
  obtain ⟨b, off, hA, hb, hc⟩ := h k (encCv c) (by simp [hx])
  exact ⟨b, off, hA, hb, by simpa using hc 0 _ rfl, hc 1 _ rfl, hc 2 _ rfl, hc 3 _ rfl, hc 4 _ rfl⟩
theorem cover_is {c : Cv} {b : Bool} (h : coverB c = b) (hc : okCv c) (w : World) :
    Calls Tryz.prog 58 #[.agg #[.int .i64 c.p, .int .i64 c.lim, .int .i64 c.agg, .int .i64 c.ded, .int .i64 c.sh]] w fun e w' => e = .returned (.bool b) ∧ Below w.heap.size w w' := by
  subst h; exact cover_any c hc w

set_option maxRecDepth 100000 in
set_option maxHeartbeats 2000000 in
theorem covers_any (A : Option Addr) (cap n : Nat) (l : List Cv) (w : World) (hs : SV w 5 A n cap (l.map encCv)) (ho : ∀ c ∈ l, okCv c) :
    Calls Tryz.prog 120 #[.slice A n cap] w fun e w' => e = .returned (.bool (coversB l)) ∧ Below w.heap.size w w' := by
  have hn : l.length = n := by have := hs.len; simpa using this
  have hle := hs.le
  have hmo := hs.most
  unfold maxLen at hmo
  have HN := hide hn
  have HS := hide hs
  have HO := hide ho
  clear hn hs ho
  go_enter Tryz.func120, Tryz.ntmps120
  go_wp2_with fail
  go_loopw [3, 8] (fun la i wr => ∃ k : Nat, k ≤ n ∧ i = .int .i64 k ∧ la = .int .i64 (cst (l.take k)).2 ∧ (cst (l.take k)).1 = true ∧ Below w.heap.size w wr) (fun _ i _ => n - (RowKit.intOf i).toNat)
  case atStart => exact ⟨0, Nat.zero_le _, rfl, rfl, rfl, Below.refl _ _⟩
  case round =>
    obtain ⟨k, hk, rfl, rfl, hr, hb⟩ := hrel
    have HB := hide hb
    obtain ⟨last, hlast⟩ : ∃ x, (cst (l.take k)).2 = x := ⟨_, rfl⟩
    have HST := hide (show cst (l.take k) = (true, last) from Prod.ext hr hlast)
    rw [hlast]
    clear hr hlast
    by_cases hlt : k < n
    · obtain ⟨c, hx⟩ := get_of (l := l) (k := k) (by rw [HN.out]; exact hlt)
      obtain ⟨b, off, rfl, hbl, c0, c1, c2, c3, c4⟩ := (HS.out.below hb).sl.cv hx
      have HT := hide (show cst (l.take (k + 1)) = stepCv (true, last) c by rw [cst_take hx, HST.out])
      have HOK := hide (HO.out c (List.mem_of_getElem? hx))
      have hk0 : (0 : Int) ≤ (k : Int) := by omega
      have hk1 : (k : Int) < (n : Int) := by omega
      clear hb hx
      obtain ⟨B, hB⟩ : ∃ B, coverB c = B := ⟨_, rfl⟩
      have HBB := hide hB
      clear hB
      by_cases hp : c.p ≤ last
      · have HF := hide (show coversB l = false by rw [coversB, cst_no (k := k + 1) (by rw [HT.out]; simp [stepCv]; intro h; omega)]; rfl)
        go_wp2_with fail
        go_ret
        exact ⟨ret_bool HF.out.symm, HB.out.alloc HB.out.size _⟩
      · cases B
        · have HF := hide (show coversB l = false by rw [coversB, cst_no (k := k + 1) (by rw [HT.out]; simp [stepCv, HBB.out])]; rfl)
          go_wp2_with (with_reducible refine (cover_is HBB.out HOK.out _).mono ?_
                       rintro e w2 ⟨rfl, hb2⟩
                       have H2 := hide (chain1 hb2)
                       clear hb2)
          go_ret
          exact ⟨ret_bool HF.out.symm, chain HB.out H2.out⟩
        · have HF := hide (show cst (l.take (k + 1)) = (true, c.p) by rw [HT.out]; simp [stepCv, HBB.out]; omega)
          go_wp2_with (with_reducible refine (cover_is HBB.out HOK.out _).mono ?_
                       rintro e w2 ⟨rfl, hb2⟩
                       have H2 := hide (chain1 hb2)
                       have z0 := kept hb2 (b := wr.heap.size) (o := 0) (u := .int .i64 c.p) (by simp)
                       clear hb2)
          go_roundw
          case rel => exact ⟨k + 1, by omega, by go_num, by rw [HF.out], by rw [HF.out], chain HB.out H2.out⟩
          case measure => simp [RowKit.intOf]; omega
    · obtain rfl : k = n := by omega
      have hk1 : ¬ (k : Int) < (k : Int) := by omega
      have HC := hide (show coversB l = decide (1 ≤ k ∧ k ≤ 8) by
        have := HST.out
        rw [List.take_of_length_le (by rw [HN.out]; exact Nat.le_refl _)] at this
        rw [coversB, this, HN.out]; simp)
      clear hb
      go_wp2_with fail
      all_goals
        go_ret
        exact ⟨ret_bool (by rw [HC.out, Bool.eq_iff_iff]; simp; try omega), HB.out⟩
end Go.Proofs.YtmfohnchnbgbaaaGreatDoor
