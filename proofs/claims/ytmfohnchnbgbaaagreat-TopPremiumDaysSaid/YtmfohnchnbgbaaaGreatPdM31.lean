/- Part 31 of the proof. -/
import Derived.Test.YtmfohnchnbgbaaaGreatPdM30
/- What is earned by when: the error that is told on. -/
namespace Go.Proofs.YtmfohnchnbgbaaaGreat
open Go.RowKit

theorem addV_nn {d v : Int} {s : List Int × List Int} (h : ∀ x ∈ s.2, 0 ≤ x) (hv : 0 ≤ v) : ∀ x ∈ (addV d v s).2, 0 ≤ x := by
  have h1 : ∀ x ∈ (popV d s).2, 0 ≤ x := by
    unfold popV
    split
    · exact fun x hx => h x (List.dropLast_subset _ hx)
    · exact h
  unfold addV pushV
  split
  · intro x hx
    rcases List.mem_append.1 hx with hx | hx
    · exact h1 x hx
    · rw [List.mem_singleton] at hx; omega
  · exact h1
theorem chain_nn : ∀ {l : List Sc} {e : Int}, chainS e l = true → ∀ x ∈ l, 0 ≤ x.y
  | x :: r, e, h, y, hy => by
    rw [chainS, Bool.and_eq_true] at h
    rcases List.mem_cons.1 hy with rfl | hy
    · have := h.1; simp [fullA] at this; omega
    · exact chain_nn h.2 y hy
theorem fold_nn : ∀ (l : List Sc) (s : List Int × List Int), (∀ x ∈ l, 0 ≤ x.y) → (∀ x ∈ s.2, 0 ≤ x) → ∀ x ∈ (l.foldl stF s).2, 0 ≤ x
  | [], s, _, h => h
  | x :: r, s, hl, h => fold_nn r _ (fun y hy => hl y (by simp [hy])) (addV_nn (addV_nn h (hl x (by simp))) (Int.le_refl _))
theorem curF_nn {l : List Sc} (h : curK l = 0) : (∀ x ∈ (curF l).2, 0 ≤ x) ∧ (curF l).1.length ≤ 4000 ∧ l.length ≤ 2000 := by
  rw [curK] at h
  split at h
  · cases h
  split at h
  · rename_i h1 h2
    have := curF_len l
    exact ⟨fold_nn l _ (chain_nn h2) (by simp), by omega, by omega⟩
  · cases h
def UptoQ (l : List Sc) (d : Int) : Int × Int := if curK l = 0 then uptoQ (curF l).1 (curF l).2 d else (0, 1)
theorem told_box (G : Nat) (x k : Int) (older : List PanicEntry) (w : World) (hb : Blk w G 31 #[.int .i64 x]) :
    CallsD Tryz.prog 46 #[.pointer (some ⟨G, 0, none⟩)] (.panicking ({ v := .iface 31 (.int .i64 k), recovered := false } :: older)) w fun e u' w' =>
      e = .returned (.tuple #[]) ∧ u' = .panicking ({ v := .iface 31 (.int .i64 k), recovered := true } :: older) ∧ w' = w.setCell ⟨G, 0, none⟩ (.int .i64 k) := told_no _ x k older w (hb.cell 0) (hb.frozen 0)
set_option maxRecDepth 100000 in
set_option maxHeartbeats 4000000 in
theorem Upto_any (HADD : AddcAny) (A : Option Addr) (cap n : Nat) (l : List Sc) (d : Int) (w : World) (hs : SV w 9 A n cap (l.map encSc)) :
    Calls Tryz.prog 20 #[.slice A n cap, .int .i64 d] w fun e w' => e = .returned (.tuple #[.int .i64 (UptoQ l d).1, .int .i64 (UptoQ l d).2]) ∧ Below w.heap.size w w' := by
  obtain ⟨w1, hw1⟩ : ∃ W, w.alloc (.cells #[.int .i64 0] 31) = W := ⟨_, rfl⟩
  have H1 := hide (show Below w.heap.size w w1 by rw [← hw1]; exact (Below.refl _ _).alloc (Nat.le_refl _) _)
  have HB1 := hide (show Blk w1 w.heap.size 31 #[.int .i64 0] by rw [← hw1]; exact Blk.new _ _ _)
  have hz1 : w.heap.size < w1.heap.size := HB1.out.lt
  have HCU := hide (curve_any HADD A cap n l w1 (hs.below H1.out))
  have HW1 := hide hw1
  clear hw1 hs
  go_enter_defers Tryz.func20, Tryz.ntmps20
  go_upto_region 1 with fail
  rw [show w.alloc (.cells #[.int .i64 0] 31) = w1 from HW1.out]
  go_wp2_with fail
  refine HCU.out.mono ?_
  rintro e w2 ⟨h2, hr⟩
  have HB2 := hide (HB1.out.below h2 hz1)
  have H2 := hide (chain H1.out h2)
  have hz2 := HB2.out.lt
  clear h2
  rcases hr with ⟨hk, rfl⟩ | ⟨hk, A1, A2, c1, c2, rfl, hs1, hs2⟩
  · have HQ := hide (show UptoQ l d = (0, 1) by rw [UptoQ, if_neg (by omega)])
    clear hk
    simp only [pan]
    go_wp2_with fail
    refine leaves_cons (f := 46) (args := #[.pointer (some ⟨w.heap.size, 0, none⟩)]) (by simp) (by simp [go_sem]) ?_
    refine (told_box _ 0 1 [] _ HB2.out).mono ?_
    rintro e u' w'' ⟨rfl, rfl, rfl⟩
    have ob := (HB2.out.set_ 0 (.int .i64 1)).cell 0
    simp at ob
    simp only [settle, List.dropWhile]
    simp only [Leaves, results, Tryz.results20, go_sem]
    simp [ob]
    exact ⟨by rw [HQ.out]; exact ⟨rfl, rfl⟩, H2.out.setCell (by simp) _⟩
  · have hnn := curF_nn hk
    have HQ := hide (show UptoQ l d = uptoQ (curF l).1 (curF l).2 d by rw [UptoQ, if_pos hk])
    have HUP := hide (upto_any A1 A2 _ _ c1 c2 (curF l).1 (curF l).2 d w2 hs1 hs2 (by omega) hnn.1)
    clear hk hnn hs1 hs2
    go_wp2_with fail
    refine HUP.out.mono ?_
    rintro e w3 ⟨he, h3⟩
    have HB3 := hide (HB2.out.below h3 hz2)
    have H3 := hide (chain H2.out h3)
    have hz3 := HB3.out.lt
    have f0 := HB3.out.frozen 0
    have y0 := HB3.out.cell 0
    simp at y0
    clear h3
    rcases he with ⟨hk, rfl⟩ | ⟨hk, hk0, rfl⟩
    · go_wp2_with fail
      refine leaves_cons (f := 46) (args := #[.pointer (some ⟨w.heap.size, 0, none⟩)]) (by simp) (by simp [go_sem]) ?_
      refine (told_ok _ _).mono ?_
      rintro e u' w'' ⟨rfl, rfl, rfl⟩
      have ob := (HB3.out.set_ 0 (.int .i64 0)).cell 0
      simp at ob
      simp only [settle]
      simp only [Leaves, results, Tryz.results20, go_sem]
      simp [ob]
      exact ⟨by rw [HQ.out]; exact ⟨rfl, hk.symm⟩, H3.out.setCell (by simp) _⟩
    · obtain ⟨q, hq⟩ : ∃ q, (uptoQ (curF l).1 (curF l).2 d).2 = q := ⟨_, rfl⟩
      rw [hq]
      simp only [pan]
      go_wp2_with fail
      refine leaves_cons (f := 46) (args := #[.pointer (some ⟨w.heap.size, 0, none⟩)]) (by simp) (by simp [go_sem]) ?_
      refine (told_box _ 0 q [] _ HB3.out).mono ?_
      rintro e u' w'' ⟨rfl, rfl, rfl⟩
      have ob := (HB3.out.set_ 0 (.int .i64 q)).cell 0
      simp at ob
      simp only [settle, List.dropWhile]
      simp only [Leaves, results, Tryz.results20, go_sem]
      simp [ob]
      exact ⟨by rw [HQ.out]; exact ⟨hk0.symm, hq.symm⟩, H3.out.setCell (by simp) _⟩
end Go.Proofs.YtmfohnchnbgbaaaGreat

/- Day by day: what a step's values are together; the step of slices. -/
namespace Go.Proofs.YtmfohnchnbgbaaaGreat
open Go.RowKit

theorem rsG_snoc : ∀ {a v : List Int} {day val d x : Int}, a.length = v.length → rsG day val (a ++ [d]) (v ++ [x]) = (rsG day val a v && okP ((a.getLast?).getD day) ((v.getLast?).getD val) d x)
  | [], [], day, val, d, x, _ => by simp [rsG]
  | a0 :: a, v0 :: v, day, val, d, x, h => by
    have h' : a.length = v.length := by simpa using h
    rw [List.cons_append, List.cons_append, rsG, rsG, rsG_snoc h', Bool.and_assoc]
    congr 2
    cases a with
    | nil =>
      obtain rfl : v = [] := List.eq_nil_of_length_eq_zero h'.symm
      rfl
    | cons b r =>
      cases v with
      | nil => simp at h'
      | cons c s =>
        obtain ⟨z, hz⟩ : ∃ z, (b :: r).getLast? = some z := by
          cases hq : (b :: r).getLast? with
          | none => simp at hq
          | some z => exact ⟨z, rfl⟩
        obtain ⟨z2, hz2⟩ : ∃ z, (c :: s).getLast? = some z := by
          cases hq : (c :: s).getLast? with
          | none => simp at hq
          | some z => exact ⟨z, rfl⟩
        rw [List.getLast?_cons_cons, List.getLast?_cons_cons, hz, hz2]; rfl
  | [], _ :: _, _, _, _, _, h => by simp at h
  | _ :: _, [], _, _, _, _, h => by simp at h
theorem valI_snoc : ∀ {a v : List Int} {t acc d x : Int}, a.length = v.length → (∀ y ∈ a, y < d) → valI t acc (a ++ [d]) (v ++ [x]) = if d ≤ t then x else valI t acc a v
  | [], [], t, acc, d, x, _, _ => by simp [valI]
  | a0 :: a, v0 :: v, t, acc, d, x, h, hlt => by
    rw [List.cons_append, List.cons_append, valI, valI]
    have h0 := hlt a0 (by simp)
    by_cases ht : a0 ≤ t
    · rw [if_pos ht, if_pos ht]; exact valI_snoc (by simpa using h) (fun y hy => hlt y (by simp [hy]))
    · rw [if_neg ht, if_neg ht, if_neg (by omega)]
  | [], _ :: _, _, _, _, _, h, _ => by simp at h
  | _ :: _, [], _, _, _, _, h, _ => by simp at h
theorem valI_all : ∀ {a v : List Int} {t acc : Int}, a.length = v.length → (∀ y ∈ a, y ≤ t) → valI t acc a v = (v.getLast?).getD acc
  | [], [], t, acc, _, _ => by simp [valI]
  | a0 :: a, v0 :: v, t, acc, h, hle => by
    rw [valI, if_pos (hle a0 (by simp)), valI_all (by simpa using h) (fun y hy => hle y (by simp [hy]))]
    cases v with
    | nil => rfl
    | cons c s =>
      rw [List.getLast?_cons_cons]
      obtain ⟨z, hz⟩ : ∃ z, (c :: s).getLast? = some z := by
        cases hq : (c :: s).getLast? with
        | none => simp at hq
        | some z => exact ⟨z, rfl⟩
      rw [hz]; rfl
  | [], _ :: _, _, _, h, _ => by simp at h
  | _ :: _, [], _, _, h, _ => by simp at h
theorem rsG_lt {a v : List Int} {d x : Int} (h : rsG 0 0 (a ++ [d]) (v ++ [x]) = true) : ∀ y ∈ a, y < d := by
  have hr := rsG_ris h
  have hr2 := hr.tail
  intro y hy
  obtain ⟨i, hi⟩ := List.mem_iff_getElem?.1 hy
  have hil := lt_of_get hi
  exact hr2.lt_at (i := i) (j := a.length) (by rw [List.getElem?_append_left hil]; exact hi) (by simp) hil
/-- A step that may be, of days up to one. -/
structure GS (s : List Int × List Int) (e : Int) : Prop where
  len : s.1.length = s.2.length
  rs : rsG 0 0 s.1 s.2 = true
  le : ∀ x ∈ s.1, x ≤ e
def valS (s : List Int × List Int) (t : Int) : Int := valI t 0 s.1 s.2
theorem push_good {s : List Int × List Int} {d x : Int} (hl : s.1.length = s.2.length) (hr : rsG 0 0 s.1 s.2 = true) (hlt : ∀ y ∈ s.1, y < d) (hd : 1 ≤ d) (hx : 0 ≤ x ∧ x ≤ 4000000000000000000) :
    GS (pushV d x s) d ∧ ∀ t, t ≤ 292194 → valS (pushV d x s) t = if d ≤ t then x else valS s t := by
  obtain ⟨a, v⟩ := s
  simp only at hl hr hlt
  unfold pushV valS
  simp only
  by_cases hc : x ≠ (v.getLast?).getD 0 ∧ d ≤ 292194
  · rw [if_pos hc]
    refine ⟨⟨by simp [hl], ?_, ?_⟩, fun t _ => ?_⟩
    · show rsG 0 0 (a ++ [d]) (v ++ [x]) = true
      rw [rsG_snoc hl, hr, Bool.true_and, okP, moneyS]
      have hlast : (a.getLast?).getD 0 < d := by
        rcases nil_or_snoc a with rfl | ⟨r, l, rfl⟩
        · simpa using (by omega : (0 : Int) < d)
        · simpa using hlt l (by simp)
      simp only [Bool.and_eq_true, decide_eq_true_eq]
      exact ⟨⟨hlast, hc.2, hc.1⟩, by omega, hx.2⟩
    · intro y hy
      rcases List.mem_append.1 hy with hy | hy
      · exact Int.le_of_lt (hlt y hy)
      · simp at hy; omega
    · exact valI_snoc hl hlt
  · rw [if_neg hc]
    refine ⟨⟨hl, hr, fun y hy => Int.le_of_lt (hlt y hy)⟩, fun t ht => ?_⟩
    by_cases hdt : d ≤ t
    · rw [if_pos hdt, valI_all hl (fun y hy => by have := hlt y hy; omega)]
      by_cases h1 : x = (v.getLast?).getD 0
      · exact h1.symm
      · exact absurd ⟨h1, by omega⟩ hc
    · rw [if_neg hdt]
theorem add_good {s : List Int × List Int} {e d x : Int} (h : GS s e) (hed : e ≤ d) (hd : 1 ≤ d) (hx : 0 ≤ x ∧ x ≤ 4000000000000000000) :
    GS (addV d x s) d ∧ ∀ t, t ≤ 292194 → valS (addV d x s) t = if d ≤ t then x else valS s t := by
  obtain ⟨a, v⟩ := s
  obtain ⟨hl, hr, hle⟩ := h
  simp only at hl hr hle
  rcases nil_or_snoc a with rfl | ⟨r, l, rfl⟩
  · have : popV d (([] : List Int), v) = ([], v) := by simp [popV]
    rw [addV, this]
    exact push_good hl hr (by simp) hd hx
  · rcases nil_or_snoc v with rfl | ⟨q, y, rfl⟩
    · simp at hl
    have hl2 : r.length = q.length := by simpa using hl
    have hlt := rsG_lt hr
    have hld := hle l (by simp)
    by_cases hq : l = d
    · subst hq
      have hp : popV l (r ++ [l], q ++ [y]) = (r, q) := by simp [popV]
      rw [addV, hp]
      have hr2 : rsG 0 0 r q = true := by
        rw [rsG_snoc hl2, Bool.and_eq_true] at hr
        exact hr.1
      obtain ⟨g1, g2⟩ := push_good (s := (r, q)) (d := l) (x := x) hl2 hr2 hlt hd hx
      refine ⟨g1, fun t ht => ?_⟩
      rw [g2 t ht]
      by_cases hdt : l ≤ t
      · rw [if_pos hdt, if_pos hdt]
      · rw [if_neg hdt, if_neg hdt, valS, valS]
        simp only
        rw [valI_snoc hl2 hlt, if_neg hdt]
    · have hp : popV d (r ++ [l], q ++ [y]) = (r ++ [l], q ++ [y]) := by simp [popV, hq]
      rw [addV, hp]
      exact push_good hl hr (fun z hz => by
        rcases List.mem_append.1 hz with hz | hz
        · have := hlt z hz; omega
        · simp at hz; omega) hd hx
/-- What slices cost on a day. -/
def yAt : List Sc → Int → Int
  | [], _ => 0
  | x :: r, t => if x.f ≤ t ∧ t < x.t then x.y else yAt r t
theorem yAt_low : ∀ {l : List Sc} {e t : Int}, chainS e l = true → t < e → yAt l t = 0
  | [], _, _, _, _ => rfl
  | x :: r, e, t, h, ht => by
    rw [chainS, Bool.and_eq_true, fullA, decide_eq_true_eq] at h
    rw [yAt, if_neg (by omega), yAt_low h.2 (by omega)]
theorem yAt_high : ∀ {l : List Sc} {e t : Int}, chainS e l = true → 292195 ≤ t → yAt l t = 0
  | [], _, _, _, _ => rfl
  | x :: r, e, t, h, ht => by
    rw [chainS, Bool.and_eq_true, fullA, decide_eq_true_eq] at h
    rw [yAt, if_neg (by omega), yAt_high h.2 ht]
theorem fold_val : ∀ {l : List Sc} {s : List Int × List Int} {e : Int}, chainS e l = true → 1 ≤ e → GS s e → (∀ t, e ≤ t → t ≤ 292194 → valS s t = 0) → (∃ e', GS (l.foldl stF s) e') ∧ ∀ t, t ≤ 292194 → valS (l.foldl stF s) t = if t < e then valS s t else yAt l t
  | [], s, e, _, _, hg, h0 => ⟨⟨e, hg⟩, fun t ht => by
    show valS s t = _
    split
    · rfl
    · exact h0 t (by omega) ht⟩
  | x :: r, s, e, h, he, hg, h0 => by
    rw [chainS, Bool.and_eq_true, fullA, decide_eq_true_eq] at h
    obtain ⟨⟨h1, h2, h3, h4, h5⟩, h6⟩ := h
    obtain ⟨g1, v1⟩ := add_good (d := x.f) (x := x.y) hg h1 (by omega) ⟨h4, h5⟩
    obtain ⟨g2, v2⟩ := add_good (d := x.t) (x := 0) g1 (by omega) (by omega) (by omega)
    have hv : ∀ t, t ≤ 292194 → valS (stF s x) t = if x.t ≤ t then 0 else if x.f ≤ t then x.y else valS s t := fun t ht => by
      rw [stF, v2 t ht]
      split
      · rfl
      · rw [v1 t ht]
    obtain ⟨k1, k2⟩ := fold_val (l := r) (s := stF s x) (e := x.t) h6 (by omega) g2 (fun t ht1 ht2 => by rw [hv t ht2, if_pos ht1])
    refine ⟨k1, fun t ht => ?_⟩
    rw [List.foldl_cons, k2 t ht]
    by_cases ha : t < x.t
    · rw [if_pos ha, hv t ht, if_neg (by omega)]
      by_cases hb : x.f ≤ t
      · rw [if_pos hb, if_neg (by omega), yAt, if_pos ⟨hb, ha⟩]
      · rw [if_neg hb]
        by_cases hc : t < e
        · rw [if_pos hc]
        · rw [if_neg hc, yAt, if_neg (by omega), yAt_low h6 ha]
          exact h0 t (by omega) ht
    · rw [if_neg ha, if_neg (by omega), yAt, if_neg (by omega)]
/-- The step of slices that stand one behind the other. -/
theorem cur_val {l : List Sc} (h : chainS 1 l = true) : stepRB (curF l).1 (curF l).2 = true ∧ ∀ t, 1 ≤ t → t ≤ 292194 → valI t 0 (curF l).1 (curF l).2 = yAt l t := by
  obtain ⟨⟨e', hg⟩, hv⟩ := fold_val (s := ([], [])) (e := 1) h (Int.le_refl _) ⟨rfl, rfl, by simp⟩ (fun t _ _ => by simp [valS, valI])
  refine ⟨hg.rs, fun t h1 h2 => ?_⟩
  have := hv t h2
  rw [if_neg (by omega)] at this
  exact this
/-- So many values together. -/
def sumD (F : Int → Int) (f : Int) : Nat → Int
  | 0 => 0
  | n + 1 => sumD F f n + F (f + n)
theorem sumD_add (F : Int → Int) (f : Int) (n m : Nat) : sumD F f (n + m) = sumD F f n + sumD F (f + n) m := by
  induction m with
  | zero => simp [sumD]
  | succ m ih =>
    rw [← Nat.add_assoc, sumD, ih, sumD, Int.add_assoc]
    congr 3
    rw [Int.natCast_add, Int.add_assoc]
theorem sumD_const {F : Int → Int} {c f : Int} : ∀ {n : Nat}, (∀ i : Nat, i < n → F (f + i) = c) → sumD F f n = n * c
  | 0, _ => by simp [sumD]
  | n + 1, h => by
    rw [sumD, sumD_const (n := n) (fun i hi => h i (by omega)), h n (by omega), Int.natCast_add, Int.add_mul]
    simp
theorem sumD_congr {F G : Int → Int} {f : Int} : ∀ {n : Nat}, (∀ i : Nat, i < n → F (f + i) = G (f + i)) → sumD F f n = sumD G f n
  | 0, _ => rfl
  | n + 1, h => by rw [sumD, sumD, sumD_congr (fun i hi => h i (by omega)), h n (by omega)]
theorem sumD_nn {F : Int → Int} {f : Int} : ∀ {n : Nat}, (∀ i : Nat, i < n → 0 ≤ F (f + i)) → 0 ≤ sumD F f n
  | 0, _ => Int.le_refl _
  | n + 1, h => by
    rw [sumD]
    have := sumD_nn (F := F) (f := f) (n := n) (fun i hi => h i (by omega))
    have := h n (by omega)
    omega
/-- Between two places of a step its value does not change. -/
theorem valI_same : ∀ {a v : List Int} {t f acc : Int}, (∀ x ∈ a, x ≤ f ∨ t < x) → f ≤ t → valI t acc a v = valI f acc a v
  | [], v, _, _, _, _, _ => by cases v <;> rfl
  | d :: a, [], _, _, _, _, _ => rfl
  | d :: a, x :: v, t, f, acc, h, hft => by
    rw [valI, valI]
    rcases h d (by simp) with h1 | h1
    · rw [if_pos (by omega), if_pos h1]; exact valI_same (fun y hy => h y (by simp [hy])) hft
    · rw [if_neg (by omega), if_neg (by omega)]
/-- The pieces' sum is the sum of the days' values. -/
theorem sumG_days {a v : List Int} (hv : ∀ x ∈ v, 0 ≤ x) {t : Int} : ∀ {r : List Int} {f s : Int}, Ris r → (∀ x ∈ a, f < x → x < t → x ∈ r) → f < t → 0 ≤ s → s + sumD (fun q => valI q 0 a v) f (t - f).toNat ≤ 4000000000000000000 →
    sumG (pcL a v t f r) s s = (s + sumD (fun q => valI q 0 a v) f (t - f).toNat, 0)
  | [], f, s, _, hr, hft, hs, hb => by
    have hc : sumD (fun q => valI q 0 a v) f (t - f).toNat = ((t - f).toNat : Int) * valI f 0 a v := sumD_const fun i hi => valI_same (fun x hx => by
      rcases Int.lt_or_le f x with h | h
      · rcases Int.lt_or_le x t with h2 | h2
        · have := hr x hx h h2; simp at this
        · right; omega
      · exact .inl h) (by omega)
    have hn := valI_nn (t := f) (a := a) (v := v) (acc := 0) hv (Int.le_refl _)
    rw [hc, show ((t - f).toNat : Int) = t - f by omega] at hb ⊢
    rw [pcL, sumG]
    have hm : max (valI f 0 a v) (-valI f 0 a v) = valI f 0 a v := by omega
    have hq : ¬ (4000000000000000000 - s) / (t - f) < valI f 0 a v := by
      have : valI f 0 a v ≤ (4000000000000000000 - s) / (t - f) := (Int.le_ediv_iff_mul_le (by omega)).2 (by rw [Int.mul_comm]; omega)
      omega
    rw [hm, if_neg hq, sumG]
  | d :: r, f, s, hris, hr, hft, hs, hb => by
    rw [pcL]
    by_cases hc : d ≤ f ∨ t ≤ d
    · rw [if_pos hc]
      exact sumG_days hv hris.tail (fun x hx h1 h2 => by
        rcases List.mem_cons.1 (hr x hx h1 h2) with rfl | h3
        · omega
        · exact h3) hft hs hb
    · rw [if_neg hc]
      have hsplit : sumD (fun q => valI q 0 a v) f (t - f).toNat = sumD (fun q => valI q 0 a v) f (d - f).toNat + sumD (fun q => valI q 0 a v) d (t - d).toNat := by
        have h1 := sumD_add (fun q => valI q 0 a v) f (d - f).toNat (t - d).toNat
        rw [show (d - f).toNat + (t - d).toNat = (t - f).toNat by omega, show f + (((d - f).toNat : Nat) : Int) = d by omega] at h1
        exact h1
      have hcst : sumD (fun q => valI q 0 a v) f (d - f).toNat = ((d - f).toNat : Int) * valI f 0 a v := sumD_const fun i hi => valI_same (fun x hx => by
        rcases Int.lt_or_le f x with h | h
        · rcases Int.lt_or_le x t with h2 | h2
          · rcases List.mem_cons.1 (hr x hx h h2) with rfl | h3
            · right; omega
            · right
              have := hris.lt_all x h3
              omega
          · right; omega
        · exact .inl h) (by omega)
      have hn := valI_nn (t := f) (a := a) (v := v) (acc := 0) hv (Int.le_refl _)
      have hnn : 0 ≤ sumD (fun q => valI q 0 a v) d (t - d).toNat := sumD_nn fun i _ => valI_nn hv (Int.le_refl _)
      rw [hsplit, hcst, show ((d - f).toNat : Int) = d - f by omega] at hb ⊢
      rw [sumG]
      have hm : max (valI f 0 a v) (-valI f 0 a v) = valI f 0 a v := by omega
      have hmn : 0 ≤ (d - f) * valI f 0 a v := Int.mul_nonneg (by omega) hn
      have hq : ¬ (4000000000000000000 - s) / (d - f) < valI f 0 a v := by
        have : valI f 0 a v ≤ (4000000000000000000 - s) / (d - f) := (Int.le_ediv_iff_mul_le (by omega)).2 (by rw [Int.mul_comm]; omega)
        omega
      rw [hm, if_neg hq, sumG_days hv hris.tail (fun x hx h1 h2 => by
        rcases List.mem_cons.1 (hr x hx (by omega) h2) with rfl | h3
        · omega
        · exact h3) (by omega) (by omega) (by omega)]
      rw [Int.add_assoc]
/-- WHAT IS EARNED BY A DAY, OF WHAT DAYS COST. -/
theorem upto_days {l : List Sc} {d : Int} (hk : curK l = 0) (hb : sumD (yAt l) 1 ((uptD d).toNat - 1) ≤ 4000000000000000000) : UptoQ l d = (((evQ (sumD (yAt l) 1 ((uptD d).toNat - 1)).toNat 1 365 : Nat) : Int), 0) := by
  have hch : chainS 1 l = true := by
    unfold curK at hk
    split at hk
    · cases hk
    · split at hk
      · assumption
      · cases hk
  obtain ⟨hst, hval⟩ := cur_val hch
  have hnn := (curF_nn hk).1
  rw [UptoQ, if_pos hk, uptoQ]
  have hu : 1 ≤ uptD d ∧ uptD d ≤ 292195 := by unfold uptD; omega
  by_cases h1 : uptD d = 1
  · rw [if_pos h1, h1]
    have h0 : sumD (yAt l) 1 ((1 : Int).toNat - 1) = 0 := rfl
    rw [h0]
    have h2 : evQ (0 : Int).toNat 1 365 = 0 := by decide
    rw [h2]
    rfl
  · rw [if_neg h1]
    have hc : sumD (fun q => valI q 0 (curF l).1 (curF l).2) 1 (uptD d - 1).toNat = sumD (yAt l) 1 ((uptD d).toNat - 1) := by
      rw [show (uptD d - 1).toNat = (uptD d).toNat - 1 by omega]
      exact sumD_congr fun i hi => hval _ (by omega) (by omega)
    have hs : sumQ (curF l).1 (curF l).2 1 (uptD d) = (sumD (yAt l) 1 ((uptD d).toNat - 1), 0) := by
      rw [sumQ, if_pos hst, if_pos (by rw [daysB, decide_eq_true_eq]; omega), sumG_days hnn (rsG_ris hst).tail (fun x hx _ _ => hx) (by omega) (Int.le_refl _) (by rw [hc]; omega), hc, Int.zero_add]
    rw [hs]
    simp
end Go.Proofs.YtmfohnchnbgbaaaGreat
