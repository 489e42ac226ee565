/- Part 34 of the proof. -/
import Derived.Lib.AppendZerosOnto
import Derived.Test.YtmfohnchnbgbaaaGreatKnM31
import Derived.Test.YtmfohnchnbgbaaaGreatKnM33
/- slices.Grow of nothing, slices.Concat of two, of changes. -/
namespace Go.Proofs.YtmfohnchnbgbaaaGreat
open Go.RowKit Go.Lib

def GrowP (w : World) (e : Ending) (w' : World) : Prop :=
  ∃ (A : Option Addr) (c : Nat), e = .returned (.slice A 0 c) ∧ OwnS w' w.heap.size 71 9 A 0 c [] ∧ Below w.heap.size w w'
set_option maxRecDepth 100000 in
set_option maxHeartbeats 4000000 in
theorem grow_any (n : Nat) (hn : n ≤ 2000) (w : World) : Calls Tryz.prog 151 #[.slice none 0 0, .int .i64 n] w (GrowP w) := by
  rcases Nat.eq_zero_or_pos n with h0 | h0
  · subst h0
    rw [show ((0 : Nat) : Int) = 0 from rfl]
    go_enter Tryz.func151, Tryz.ntmps151
    go_wp2_with fail
    go_ret
    exact ⟨none, 0, rfl, OwnS.nil_ _ _ _ _, Below.refl _ _⟩
  · obtain ⟨i0, z, hi0, hz0, hzs, hzb, hzc⟩ := elCh.hi
    have hold : (Builtin.firstCells i0.size 0 (.slice none 0 0)).run Tryz.prog w.drew = .ok ([] : List Value).toArray w.drew := run_firstCells_none w.drew i0.size 0 0 0
    have hfit : Builtin.nextslicecap n 0 ≤ 2 * n := by
      unfold Builtin.nextslicecap
      split
      · omega
      · first | omega | (split <;> omega)
    have hrz : ∀ ty, (Builtin.append_ #[63, 3] ty #[.slice none 0 0, .int .i64 n]).run Tryz.prog w =
        .ok (.slice (some ⟨w.heap.size, 0, none⟩) n (grownCap w n 0 71)) (w.drew.alloc (.cells (([] : List Value).toArray ++ Builtin.zeroCells z.cells n ++ Builtin.zeroCells z.cells (grownCap w n 0 71 - n)) 71)) := fun ty => by
      have h := Lib.run_append_grow_zeros w 63 3 ty 71 i0 _ .i64 .i64 Tryz.underlying63 Tryz.underlying3 hi0 hz0 none 0 0 [] hold n h0 (by omega) (by omega) (by omega) (by rw [hzb]; omega) (by
        rw [hzb, Nat.zero_add]
        have := Nat.mul_le_mul_right 88 hfit
        omega)
      rw [Nat.zero_add] at h
      exact h
    have hge := grownCap_ge w n 0 71
    have hlm := grownCap_le_maxLen w n 0 71 (by simp only [maxLen]; omega)
    obtain ⟨G, hG⟩ : ∃ G, grownCap w n 0 71 = G := ⟨_, rfl⟩
    rw [hG] at hrz hge hlm
    obtain ⟨ROW, hROW⟩ : ∃ ROW : Array Value, ([] : List Value).toArray ++ Builtin.zeroCells z.cells n ++ Builtin.zeroCells z.cells (G - n) = ROW := ⟨_, rfl⟩
    rw [hROW] at hrz
    have hsz : ROW.size = G * 9 := by
      rw [← hROW, Array.size_append, Array.size_append, size_zeroCells, size_zeroCells, hzc]
      simp only [List.size_toArray, List.length_nil]
      omega
    have HO := hide (show OwnS (w.drew.alloc (.cells ROW 71)) w.heap.size 71 9 (some ⟨w.heap.size, 0, none⟩) 0 G [] from
      ⟨⟨rfl, .inr ⟨w.heap.size, G, ROW, rfl, Nat.le_refl _, heap_alloc_new w.drew _, Nat.zero_le _, hlm, hsz, by simp⟩⟩, rfl, RowsOk.nil_⟩)
    have hBw : Below w.heap.size w (w.drew.alloc (.cells ROW 71)) := (Below.refl _ _).drew.alloc (Nat.le_refl _) _
    have HBW := hide hBw
    have hn0 : ¬ ((n : Int) < 0) := by omega
    have hn1 : (0 : Int) < (n : Int) := by omega
    have hnG : (n : Int) ≤ (G : Int) := by omega
    have hG0 : (0 : Int) ≤ (G : Int) := by omega
    clear hG hROW hsz hold hfit hi0 hz0 hzs hzb hzc hlm hBw
    go_enter Tryz.func151, Tryz.ntmps151
    go_wp2_with (at_builtin; refine Lib.wpList_append_run _ rfl _ _ _ _ rfl _ _ rfl rfl _ _ (hrz _) ?_)
    go_ret
    exact ⟨_, _, rfl, HO.out, HBW.out⟩

def ConcP (l : List Ch) (w : World) (e : Ending) (w' : World) : Prop :=
  ∃ (A : Option Addr) (c : Nat), e = .returned (.slice A l.length c) ∧ OwnS w' w.heap.size 71 9 A l.length c (l.map encCh) ∧ Below w.heap.size w w'
set_option maxRecDepth 100000 in
set_option maxHeartbeats 4000000 in
theorem concat_any (g : Nat) (A1 A2 : Option Addr) (c1 c2 : Nat) (l1 l2 : List Ch) (w : World) (hB : Blk w g 63 #[.slice A1 l1.length c1, .slice A2 l2.length c2])
    (h1 : Sl w w.heap.size 9 A1 (l1.map encCh)) (h2 : Sl w w.heap.size 9 A2 (l2.map encCh)) (hl : l1.length + l2.length ≤ 2000) :
    Calls Tryz.prog 83 #[.slice (some ⟨g, 0, none⟩) 2 2] w (ConcP (l1 ++ l2) w) := by
  obtain ⟨n1, hn1⟩ : ∃ n, l1.length = n := ⟨_, rfl⟩
  obtain ⟨n2, hn2⟩ : ∃ n, l2.length = n := ⟨_, rfl⟩
  obtain ⟨N, hN⟩ : ∃ N, n1 + n2 = N := ⟨_, rfl⟩
  rw [hn1, hn2] at hl hB
  have HB := hide hB
  have HA1 := hide h1
  have HA2 := hide h2
  have HN1 := hide hn1
  have HN2 := hide hn2
  have HN := hide hN
  have x0 : w.cell? ⟨g, 0, none⟩ = some (.slice A1 n1 c1) := hB.cell 0
  have x1 : w.cell? ⟨g, 1, none⟩ = some (.slice A2 n2 c2) := hB.cell 1
  have hg := hB.lt
  have hi1 : (n1 : Int) + (n2 : Int) ≤ 2000 := by omega
  have HGR := hide (grow_any N (by omega) w)
  have hNi : (n1 : Int) + (n2 : Int) = (N : Int) := by omega
  have HNI := hide hNi
  clear hB h1 h2 hn1 hn2 hN hNi
  go_enter Tryz.func83, Tryz.ntmps83
  go_wp2_with fail
  go_loopw [3, 11] (fun q3 q11 wr => wr = w ∧ ((q11 = .int .i64 0 ∧ q3 = .int .i64 0) ∨ (q11 = .int .i64 1 ∧ q3 = .int .i64 n1) ∨ (q11 = .int .i64 2 ∧ q3 = .int .i64 N))) (fun _ q _ => 2 - (RowKit.intOf q).toNat)
  case atStart => exact ⟨rfl, .inl ⟨rfl, rfl⟩⟩
  case round =>
    obtain ⟨hwe, hq⟩ := hrel
    obtain rfl := hwe.symm
    clear hwe
    rcases hq with ⟨rfl, rfl⟩ | ⟨rfl, rfl⟩ | ⟨rfl, rfl⟩
    · go_wp2_with fail
      go_roundw
      case rel => exact ⟨trivial, .inr (.inl ⟨rfl, by go_num⟩)⟩
      case measure => simp [RowKit.intOf]
    · go_wp2_with fail
      go_roundw
      case rel => exact ⟨trivial, .inr (.inr ⟨rfl, by rw [HNI.out]⟩)⟩
      case measure => simp [RowKit.intOf]
    · go_wp2_with fail
      refine HGR.out.mono ?_
      rintro e w2 ⟨A0, c0, rfl, ho, h2⟩
      have HO2 := hide ho
      have H2 := hide h2
      have y0 := kept h2 x0
      have y1 := kept h2 x1
      clear ho h2 x0 x1
      go_wp2_with fail
      go_loopw [6, 27] (fun q6 q27 W => Below w.heap.size w W ∧ ∃ (A : Option Addr) (c : Nat), (q27 = .int .i64 0 ∧ q6 = .slice A 0 c ∧ OwnS W w.heap.size 71 9 A 0 c []) ∨ (q27 = .int .i64 1 ∧ q6 = .slice A n1 c ∧ OwnS W w.heap.size 71 9 A n1 c (l1.map encCh)) ∨ (q27 = .int .i64 2 ∧ q6 = .slice A N c ∧ OwnS W w.heap.size 71 9 A N c ((l1 ++ l2).map encCh))) (fun _ q _ => 2 - (RowKit.intOf q).toNat)
      case atStart => exact ⟨H2.out, A0, c0, .inl ⟨rfl, rfl, HO2.out⟩⟩
      case round =>
      obtain ⟨hb, A, c, hq⟩ := hrel
      have HBE := hide hb
      have HSA := hide ((HA1.out.below hb).more hb.size)
      have HSB := hide ((HA2.out.below hb).more hb.size)
      have z0 := kept hb (HB.out.cell 0)
      have z1 := kept hb (HB.out.cell 1)
      simp at z0 z1
      clear hb y0 y1
      rcases hq with ⟨rfl, rfl, ho⟩ | ⟨rfl, rfl, ho⟩ | ⟨rfl, rfl, ho⟩
      all_goals
        have HO := hide ho
        clear ho
      · go_wp2_with (at_builtin
                     refine wpList_app rfl (.tmp 31) (.tmp 32) 63 rfl elCh (B := w.heap.size) (A := A) (rows := []) (A2 := A1) (news := l1.map encCh) rfl HO.out rfl (by simp; exact HN1.out) ?_ (okChs l1) ?_ ?_ ?_ ?_
                     · exact HSA.out
                     · simp only [maxLen]; omega
                     · omega
                     · exact HBE.out.size
                     intro A3 c3 wa ho1 hg1 ha1
                     have hba := HBE.out.grown hg1 HBE.out.size (fun kk hk => (HO.out.lt kk hk).1)
                     have HBA := hide hba
                     have HO3 := hide ho1
                     clear hg1 ha1 ho1 hba)
        go_roundw
        case rel => exact ⟨HBA.out, A3, c3, .inr (.inl ⟨rfl, by simp, by have h := HO3.out; rwa [Nat.zero_add, List.nil_append] at h⟩)⟩
        case measure => simp [RowKit.intOf]
      · go_wp2_with (at_builtin
                     refine wpList_app rfl (.tmp 31) (.tmp 32) 63 rfl elCh (B := w.heap.size) (A := A) (rows := l1.map encCh) (A2 := A2) (news := l2.map encCh) rfl HO.out rfl (by simp; exact HN2.out) ?_ (okChs l2) ?_ ?_ ?_ ?_
                     · exact HSB.out
                     · simp only [maxLen]; omega
                     · omega
                     · exact HBE.out.size
                     intro A3 c3 wa ho1 hg1 ha1
                     have hba := HBE.out.grown hg1 HBE.out.size (fun kk hk => (HO.out.lt kk hk).1)
                     have HBA := hide hba
                     have HO3 := hide ho1
                     clear hg1 ha1 ho1 hba)
        go_roundw
        case rel => exact ⟨HBA.out, A3, c3, .inr (.inr ⟨rfl, by rw [HN.out], by have h := HO3.out; rwa [HN.out, ← List.map_append] at h⟩)⟩
        case measure => simp [RowKit.intOf]
      · go_wp2_with fail
        go_ret
        have hlen : (l1 ++ l2).length = N := by rw [List.length_append, HN1.out, HN2.out, HN.out]
        exact ⟨A, c, by rw [hlen]; rfl, by rw [hlen]; exact HO.out, HBE.out⟩
end Go.Proofs.YtmfohnchnbgbaaaGreat

/- Day by day: what a step's values are together; the step of slices. -/
namespace Go.Proofs.YtmfohnchnbgbaaaGreat
open Go.RowKit

theorem rsG_snoc : ∀ {a v : List Int} {day val d x : Int}, a.length = v.length → rsG day val (a ++ [d]) (v ++ [x]) = (rsG day val a v && okP ((a.getLast?).getD day) ((v.getLast?).getD val) d x)
  | [], [], day, val, d, x, _ => by simp [rsG]
  | a0 :: a, v0 :: v, day, val, d, x, h => by
    have h' : a.length = v.length := by simpa using h
    rw [List.cons_append, List.cons_append, rsG, rsG, rsG_snoc h', Bool.and_assoc]
    congr 2
    cases a with
    | nil =>
      obtain rfl : v = [] := List.eq_nil_of_length_eq_zero h'.symm
      rfl
    | cons b r =>
      cases v with
      | nil => simp at h'
      | cons c s =>
        obtain ⟨z, hz⟩ : ∃ z, (b :: r).getLast? = some z := by
          cases hq : (b :: r).getLast? with
          | none => simp at hq
          | some z => exact ⟨z, rfl⟩
        obtain ⟨z2, hz2⟩ : ∃ z, (c :: s).getLast? = some z := by
          cases hq : (c :: s).getLast? with
          | none => simp at hq
          | some z => exact ⟨z, rfl⟩
        rw [List.getLast?_cons_cons, List.getLast?_cons_cons, hz, hz2]; rfl
  | [], _ :: _, _, _, _, _, h => by simp at h
  | _ :: _, [], _, _, _, _, h => by simp at h
theorem valI_snoc : ∀ {a v : List Int} {t acc d x : Int}, a.length = v.length → (∀ y ∈ a, y < d) → valI t acc (a ++ [d]) (v ++ [x]) = if d ≤ t then x else valI t acc a v
  | [], [], t, acc, d, x, _, _ => by simp [valI]
  | a0 :: a, v0 :: v, t, acc, d, x, h, hlt => by
    rw [List.cons_append, List.cons_append, valI, valI]
    have h0 := hlt a0 (by simp)
    by_cases ht : a0 ≤ t
    · rw [if_pos ht, if_pos ht]; exact valI_snoc (by simpa using h) (fun y hy => hlt y (by simp [hy]))
    · rw [if_neg ht, if_neg ht, if_neg (by omega)]
  | [], _ :: _, _, _, _, _, h, _ => by simp at h
  | _ :: _, [], _, _, _, _, h, _ => by simp at h
theorem valI_all : ∀ {a v : List Int} {t acc : Int}, a.length = v.length → (∀ y ∈ a, y ≤ t) → valI t acc a v = (v.getLast?).getD acc
  | [], [], t, acc, _, _ => by simp [valI]
  | a0 :: a, v0 :: v, t, acc, h, hle => by
    rw [valI, if_pos (hle a0 (by simp)), valI_all (by simpa using h) (fun y hy => hle y (by simp [hy]))]
    cases v with
    | nil => rfl
    | cons c s =>
      rw [List.getLast?_cons_cons]
      obtain ⟨z, hz⟩ : ∃ z, (c :: s).getLast? = some z := by
        cases hq : (c :: s).getLast? with
        | none => simp at hq
        | some z => exact ⟨z, rfl⟩
      rw [hz]; rfl
  | [], _ :: _, _, _, h, _ => by simp at h
  | _ :: _, [], _, _, h, _ => by simp at h
theorem rsG_lt {a v : List Int} {d x : Int} (h : rsG 0 0 (a ++ [d]) (v ++ [x]) = true) : ∀ y ∈ a, y < d := by
  have hr := rsG_ris h
  have hr2 := hr.tail
  intro y hy
  obtain ⟨i, hi⟩ := List.mem_iff_getElem?.1 hy
  have hil := lt_of_get hi
  exact hr2.lt_at (i := i) (j := a.length) (by rw [List.getElem?_append_left hil]; exact hi) (by simp) hil
/-- A step that may be, of days up to one. -/
structure GS (s : List Int × List Int) (e : Int) : Prop where
  len : s.1.length = s.2.length
  rs : rsG 0 0 s.1 s.2 = true
  le : ∀ x ∈ s.1, x ≤ e
def valS (s : List Int × List Int) (t : Int) : Int := valI t 0 s.1 s.2
theorem push_good {s : List Int × List Int} {d x : Int} (hl : s.1.length = s.2.length) (hr : rsG 0 0 s.1 s.2 = true) (hlt : ∀ y ∈ s.1, y < d) (hd : 1 ≤ d) (hx : 0 ≤ x ∧ x ≤ 4000000000000000000) :
    GS (pushV d x s) d ∧ ∀ t, t ≤ 292194 → valS (pushV d x s) t = if d ≤ t then x else valS s t := by
  obtain ⟨a, v⟩ := s
  simp only at hl hr hlt
  unfold pushV valS
  simp only
  by_cases hc : x ≠ (v.getLast?).getD 0 ∧ d ≤ 292194
  · rw [if_pos hc]
    refine ⟨⟨by simp [hl], ?_, ?_⟩, fun t _ => ?_⟩
    · show rsG 0 0 (a ++ [d]) (v ++ [x]) = true
      rw [rsG_snoc hl, hr, Bool.true_and, okP, moneyS]
      have hlast : (a.getLast?).getD 0 < d := by
        rcases nil_or_snoc a with rfl | ⟨r, l, rfl⟩
        · simpa using (by omega : (0 : Int) < d)
        · simpa using hlt l (by simp)
      simp only [Bool.and_eq_true, decide_eq_true_eq]
      exact ⟨⟨hlast, hc.2, hc.1⟩, by omega, hx.2⟩
    · intro y hy
      rcases List.mem_append.1 hy with hy | hy
      · exact Int.le_of_lt (hlt y hy)
      · simp at hy; omega
    · exact valI_snoc hl hlt
  · rw [if_neg hc]
    refine ⟨⟨hl, hr, fun y hy => Int.le_of_lt (hlt y hy)⟩, fun t ht => ?_⟩
    by_cases hdt : d ≤ t
    · rw [if_pos hdt, valI_all hl (fun y hy => by have := hlt y hy; omega)]
      by_cases h1 : x = (v.getLast?).getD 0
      · exact h1.symm
      · exact absurd ⟨h1, by omega⟩ hc
    · rw [if_neg hdt]
theorem add_good {s : List Int × List Int} {e d x : Int} (h : GS s e) (hed : e ≤ d) (hd : 1 ≤ d) (hx : 0 ≤ x ∧ x ≤ 4000000000000000000) :
    GS (addV d x s) d ∧ ∀ t, t ≤ 292194 → valS (addV d x s) t = if d ≤ t then x else valS s t := by
  obtain ⟨a, v⟩ := s
  obtain ⟨hl, hr, hle⟩ := h
  simp only at hl hr hle
  rcases nil_or_snoc a with rfl | ⟨r, l, rfl⟩
  · have : popV d (([] : List Int), v) = ([], v) := by simp [popV]
    rw [addV, this]
    exact push_good hl hr (by simp) hd hx
  · rcases nil_or_snoc v with rfl | ⟨q, y, rfl⟩
    · simp at hl
    have hl2 : r.length = q.length := by simpa using hl
    have hlt := rsG_lt hr
    have hld := hle l (by simp)
    by_cases hq : l = d
    · subst hq
      have hp : popV l (r ++ [l], q ++ [y]) = (r, q) := by simp [popV]
      rw [addV, hp]
      have hr2 : rsG 0 0 r q = true := by
        rw [rsG_snoc hl2, Bool.and_eq_true] at hr
        exact hr.1
      obtain ⟨g1, g2⟩ := push_good (s := (r, q)) (d := l) (x := x) hl2 hr2 hlt hd hx
      refine ⟨g1, fun t ht => ?_⟩
      rw [g2 t ht]
      by_cases hdt : l ≤ t
      · rw [if_pos hdt, if_pos hdt]
      · rw [if_neg hdt, if_neg hdt, valS, valS]
        simp only
        rw [valI_snoc hl2 hlt, if_neg hdt]
    · have hp : popV d (r ++ [l], q ++ [y]) = (r ++ [l], q ++ [y]) := by simp [popV, hq]
      rw [addV, hp]
      exact push_good hl hr (fun z hz => by
        rcases List.mem_append.1 hz with hz | hz
        · have := hlt z hz; omega
        · simp at hz; omega) hd hx
/-- What slices cost on a day. -/
def yAt : List Sc → Int → Int
  | [], _ => 0
  | x :: r, t => if x.f ≤ t ∧ t < x.t then x.y else yAt r t
theorem yAt_low : ∀ {l : List Sc} {e t : Int}, chainS e l = true → t < e → yAt l t = 0
  | [], _, _, _, _ => rfl
  | x :: r, e, t, h, ht => by
    rw [chainS, Bool.and_eq_true, fullA, decide_eq_true_eq] at h
    rw [yAt, if_neg (by omega), yAt_low h.2 (by omega)]
theorem yAt_high : ∀ {l : List Sc} {e t : Int}, chainS e l = true → 292195 ≤ t → yAt l t = 0
  | [], _, _, _, _ => rfl
  | x :: r, e, t, h, ht => by
    rw [chainS, Bool.and_eq_true, fullA, decide_eq_true_eq] at h
    rw [yAt, if_neg (by omega), yAt_high h.2 ht]
theorem fold_val : ∀ {l : List Sc} {s : List Int × List Int} {e : Int}, chainS e l = true → 1 ≤ e → GS s e → (∀ t, e ≤ t → t ≤ 292194 → valS s t = 0) → (∃ e', GS (l.foldl stF s) e') ∧ ∀ t, t ≤ 292194 → valS (l.foldl stF s) t = if t < e then valS s t else yAt l t
  | [], s, e, _, _, hg, h0 => ⟨⟨e, hg⟩, fun t ht => by
    show valS s t = _
    split
    · rfl
    · exact h0 t (by omega) ht⟩
  | x :: r, s, e, h, he, hg, h0 => by
    rw [chainS, Bool.and_eq_true, fullA, decide_eq_true_eq] at h
    obtain ⟨⟨h1, h2, h3, h4, h5⟩, h6⟩ := h
    obtain ⟨g1, v1⟩ := add_good (d := x.f) (x := x.y) hg h1 (by omega) ⟨h4, h5⟩
    obtain ⟨g2, v2⟩ := add_good (d := x.t) (x := 0) g1 (by omega) (by omega) (by omega)
    have hv : ∀ t, t ≤ 292194 → valS (stF s x) t = if x.t ≤ t then 0 else if x.f ≤ t then x.y else valS s t := fun t ht => by
      rw [stF, v2 t ht]
      split
      · rfl
      · rw [v1 t ht]
    obtain ⟨k1, k2⟩ := fold_val (l := r) (s := stF s x) (e := x.t) h6 (by omega) g2 (fun t ht1 ht2 => by rw [hv t ht2, if_pos ht1])
    refine ⟨k1, fun t ht => ?_⟩
    rw [List.foldl_cons, k2 t ht]
    by_cases ha : t < x.t
    · rw [if_pos ha, hv t ht, if_neg (by omega)]
      by_cases hb : x.f ≤ t
      · rw [if_pos hb, if_neg (by omega), yAt, if_pos ⟨hb, ha⟩]
      · rw [if_neg hb]
        by_cases hc : t < e
        · rw [if_pos hc]
        · rw [if_neg hc, yAt, if_neg (by omega), yAt_low h6 ha]
          exact h0 t (by omega) ht
    · rw [if_neg ha, if_neg (by omega), yAt, if_neg (by omega)]
/-- The step of slices that stand one behind the other. -/
theorem cur_val {l : List Sc} (h : chainS 1 l = true) : stepRB (curF l).1 (curF l).2 = true ∧ ∀ t, 1 ≤ t → t ≤ 292194 → valI t 0 (curF l).1 (curF l).2 = yAt l t := by
  obtain ⟨⟨e', hg⟩, hv⟩ := fold_val (s := ([], [])) (e := 1) h (Int.le_refl _) ⟨rfl, rfl, by simp⟩ (fun t _ _ => by simp [valS, valI])
  refine ⟨hg.rs, fun t h1 h2 => ?_⟩
  have := hv t h2
  rw [if_neg (by omega)] at this
  exact this
/-- So many values together. -/
def sumD (F : Int → Int) (f : Int) : Nat → Int
  | 0 => 0
  | n + 1 => sumD F f n + F (f + n)
theorem sumD_add (F : Int → Int) (f : Int) (n m : Nat) : sumD F f (n + m) = sumD F f n + sumD F (f + n) m := by
  induction m with
  | zero => simp [sumD]
  | succ m ih =>
    rw [← Nat.add_assoc, sumD, ih, sumD, Int.add_assoc]
    congr 3
    rw [Int.natCast_add, Int.add_assoc]
theorem sumD_const {F : Int → Int} {c f : Int} : ∀ {n : Nat}, (∀ i : Nat, i < n → F (f + i) = c) → sumD F f n = n * c
  | 0, _ => by simp [sumD]
  | n + 1, h => by
    rw [sumD, sumD_const (n := n) (fun i hi => h i (by omega)), h n (by omega), Int.natCast_add, Int.add_mul]
    simp
theorem sumD_congr {F G : Int → Int} {f : Int} : ∀ {n : Nat}, (∀ i : Nat, i < n → F (f + i) = G (f + i)) → sumD F f n = sumD G f n
  | 0, _ => rfl
  | n + 1, h => by rw [sumD, sumD, sumD_congr (fun i hi => h i (by omega)), h n (by omega)]
theorem sumD_nn {F : Int → Int} {f : Int} : ∀ {n : Nat}, (∀ i : Nat, i < n → 0 ≤ F (f + i)) → 0 ≤ sumD F f n
  | 0, _ => Int.le_refl _
  | n + 1, h => by
    rw [sumD]
    have := sumD_nn (F := F) (f := f) (n := n) (fun i hi => h i (by omega))
    have := h n (by omega)
    omega
/-- Between two places of a step its value does not change. -/
theorem valI_same : ∀ {a v : List Int} {t f acc : Int}, (∀ x ∈ a, x ≤ f ∨ t < x) → f ≤ t → valI t acc a v = valI f acc a v
  | [], v, _, _, _, _, _ => by cases v <;> rfl
  | d :: a, [], _, _, _, _, _ => rfl
  | d :: a, x :: v, t, f, acc, h, hft => by
    rw [valI, valI]
    rcases h d (by simp) with h1 | h1
    · rw [if_pos (by omega), if_pos h1]; exact valI_same (fun y hy => h y (by simp [hy])) hft
    · rw [if_neg (by omega), if_neg (by omega)]
/-- The pieces' sum is the sum of the days' values. -/
theorem sumG_days {a v : List Int} (hv : ∀ x ∈ v, 0 ≤ x) {t : Int} : ∀ {r : List Int} {f s : Int}, Ris r → (∀ x ∈ a, f < x → x < t → x ∈ r) → f < t → 0 ≤ s → s + sumD (fun q => valI q 0 a v) f (t - f).toNat ≤ 4000000000000000000 →
    sumG (pcL a v t f r) s s = (s + sumD (fun q => valI q 0 a v) f (t - f).toNat, 0)
  | [], f, s, _, hr, hft, hs, hb => by
    have hc : sumD (fun q => valI q 0 a v) f (t - f).toNat = ((t - f).toNat : Int) * valI f 0 a v := sumD_const fun i hi => valI_same (fun x hx => by
      rcases Int.lt_or_le f x with h | h
      · rcases Int.lt_or_le x t with h2 | h2
        · have := hr x hx h h2; simp at this
        · right; omega
      · exact .inl h) (by omega)
    have hn := valI_nn (t := f) (a := a) (v := v) (acc := 0) hv (Int.le_refl _)
    rw [hc, show ((t - f).toNat : Int) = t - f by omega] at hb ⊢
    rw [pcL, sumG]
    have hm : max (valI f 0 a v) (-valI f 0 a v) = valI f 0 a v := by omega
    have hq : ¬ (4000000000000000000 - s) / (t - f) < valI f 0 a v := by
      have : valI f 0 a v ≤ (4000000000000000000 - s) / (t - f) := (Int.le_ediv_iff_mul_le (by omega)).2 (by rw [Int.mul_comm]; omega)
      omega
    rw [hm, if_neg hq, sumG]
  | d :: r, f, s, hris, hr, hft, hs, hb => by
    rw [pcL]
    by_cases hc : d ≤ f ∨ t ≤ d
    · rw [if_pos hc]
      exact sumG_days hv hris.tail (fun x hx h1 h2 => by
        rcases List.mem_cons.1 (hr x hx h1 h2) with rfl | h3
        · omega
        · exact h3) hft hs hb
    · rw [if_neg hc]
      have hsplit : sumD (fun q => valI q 0 a v) f (t - f).toNat = sumD (fun q => valI q 0 a v) f (d - f).toNat + sumD (fun q => valI q 0 a v) d (t - d).toNat := by
        have h1 := sumD_add (fun q => valI q 0 a v) f (d - f).toNat (t - d).toNat
        rw [show (d - f).toNat + (t - d).toNat = (t - f).toNat by omega, show f + (((d - f).toNat : Nat) : Int) = d by omega] at h1
        exact h1
      have hcst : sumD (fun q => valI q 0 a v) f (d - f).toNat = ((d - f).toNat : Int) * valI f 0 a v := sumD_const fun i hi => valI_same (fun x hx => by
        rcases Int.lt_or_le f x with h | h
        · rcases Int.lt_or_le x t with h2 | h2
          · rcases List.mem_cons.1 (hr x hx h h2) with rfl | h3
            · right; omega
            · right
              have := hris.lt_all x h3
              omega
          · right; omega
        · exact .inl h) (by omega)
      have hn := valI_nn (t := f) (a := a) (v := v) (acc := 0) hv (Int.le_refl _)
      have hnn : 0 ≤ sumD (fun q => valI q 0 a v) d (t - d).toNat := sumD_nn fun i _ => valI_nn hv (Int.le_refl _)
      rw [hsplit, hcst, show ((d - f).toNat : Int) = d - f by omega] at hb ⊢
      rw [sumG]
      have hm : max (valI f 0 a v) (-valI f 0 a v) = valI f 0 a v := by omega
      have hmn : 0 ≤ (d - f) * valI f 0 a v := Int.mul_nonneg (by omega) hn
      have hq : ¬ (4000000000000000000 - s) / (d - f) < valI f 0 a v := by
        have : valI f 0 a v ≤ (4000000000000000000 - s) / (d - f) := (Int.le_ediv_iff_mul_le (by omega)).2 (by rw [Int.mul_comm]; omega)
        omega
      rw [hm, if_neg hq, sumG_days hv hris.tail (fun x hx h1 h2 => by
        rcases List.mem_cons.1 (hr x hx (by omega) h2) with rfl | h3
        · omega
        · exact h3) (by omega) (by omega) (by omega)]
      rw [Int.add_assoc]
/-- WHAT IS EARNED BY A DAY, OF WHAT DAYS COST. -/
theorem upto_days {l : List Sc} {d : Int} (hk : curK l = 0) (hb : sumD (yAt l) 1 ((uptD d).toNat - 1) ≤ 4000000000000000000) : UptoQ l d = (((evQ (sumD (yAt l) 1 ((uptD d).toNat - 1)).toNat 1 365 : Nat) : Int), 0) := by
  have hch : chainS 1 l = true := by
    unfold curK at hk
    split at hk
    · cases hk
    · split at hk
      · assumption
      · cases hk
  obtain ⟨hst, hval⟩ := cur_val hch
  have hnn := (curF_nn hk).1
  rw [UptoQ, if_pos hk, uptoQ]
  have hu : 1 ≤ uptD d ∧ uptD d ≤ 292195 := by unfold uptD; omega
  by_cases h1 : uptD d = 1
  · rw [if_pos h1, h1]
    have h0 : sumD (yAt l) 1 ((1 : Int).toNat - 1) = 0 := rfl
    rw [h0]
    have h2 : evQ (0 : Int).toNat 1 365 = 0 := by decide
    rw [h2]
    rfl
  · rw [if_neg h1]
    have hc : sumD (fun q => valI q 0 (curF l).1 (curF l).2) 1 (uptD d - 1).toNat = sumD (yAt l) 1 ((uptD d).toNat - 1) := by
      rw [show (uptD d - 1).toNat = (uptD d).toNat - 1 by omega]
      exact sumD_congr fun i hi => hval _ (by omega) (by omega)
    have hs : sumQ (curF l).1 (curF l).2 1 (uptD d) = (sumD (yAt l) 1 ((uptD d).toNat - 1), 0) := by
      rw [sumQ, if_pos hst, if_pos (by rw [daysB, decide_eq_true_eq]; omega), sumG_days hnn (rsG_ris hst).tail (fun x hx _ _ => hx) (by omega) (Int.le_refl _) (by rw [hc]; omega), hc, Int.zero_add]
    rw [hs]
    simp
end Go.Proofs.YtmfohnchnbgbaaaGreat
