/- Part 23 of the proof. -/
import Derived.Test.YtmfohnchnbgbaaaGreatDoorYpM22
/- What a step's values are together. -/
namespace Go.Proofs.YtmfohnchnbgbaaaGreatDoor
open Go.RowKit Go.Shelf
attribute [local go_sem] Oper.semAt_some

def sumG : List (Int × Int × Int) → Int → Int → Int × Int
  | [], s, _ => (s, 0)
  | (p, q, v) :: r, s, al => if (4000000000000000000 - al) / (q - p) < max v (-v) then (0, 5) else sumG r (s + (q - p) * v) (al + (q - p) * max v (-v))
def stepS (st : Option (Int × Int)) (x : Pc) : Option (Int × Int) :=
  match st with
  | none => none
  | some (s, al) => if (4000000000000000000 - al) / (x.1.2.1 - x.1.1) < max x.1.2.2 (-x.1.2.2) then none else some (s + (x.1.2.1 - x.1.1) * x.1.2.2, al + (x.1.2.1 - x.1.1) * max x.1.2.2 (-x.1.2.2))
def runS (l : List Pc) : Option (Int × Int) := l.foldl stepS (some (0, 0))
theorem fold_none : ∀ (l : List Pc), l.foldl stepS none = none
  | [] => rfl
  | _ :: r => fold_none r
theorem sumG_run : ∀ (l : List Pc) (s al : Int), sumG (l.map Subtype.val) s al = match l.foldl stepS (some (s, al)) with | some (s', _) => (s', 0) | none => (0, 5)
  | [], _, _ => rfl
  | x :: r, s, al => by
    rw [List.map_cons, List.foldl_cons, show x.val = (x.1.1, x.1.2.1, x.1.2.2) from rfl, sumG, stepS]
    by_cases h : (4000000000000000000 - al) / (x.1.2.1 - x.1.1) < max x.1.2.2 (-x.1.2.2)
    · simp only [if_pos h, fold_none]
    · simp only [if_neg h]
      exact sumG_run r _ _
theorem runS_snoc (l : List Pc) (x : Pc) : runS (l ++ [x]) = stepS (runS l) x := by rw [runS, runS, List.foldl_append]; rfl
theorem runS_none {l : List Pc} {k : Nat} (h : runS (l.take k) = none) : runS l = none := by
  rw [← List.take_append_drop k l, runS, List.foldl_append]
  rw [runS] at h
  rw [h, fold_none]
def sumQ (a v : List Int) (f t : Int) : Int × Int := if stepRB a v = true then (if daysB f t = true then sumG (pcL a v t f a) 0 0 else (0, 1)) else (0, 1)
/-- Between two rounds; a round has left. -/
def ISa (S N : Nat) (pre : List Pc) (W : World) : Prop := ∃ s al : Int, runS pre = some (s, al) ∧ -al ≤ s ∧ s ≤ al ∧ 0 ≤ al ∧ al ≤ 4000000000000000000 ∧ Blk W S 3 #[.int .i64 s] ∧ Blk W (S + 1) 3 #[.int .i64 al] ∧ N ≤ W.heap.size
def IS (w6 : World) (N : Nat) (pre : List Pc) (W : World) : Prop := ISa w6.heap.size N pre W ∧ Below w6.heap.size w6 W
def IxSa (G : Nat) (c : Code) (pre : List Pc) (W : World) : Prop := c = .ret ∧ runS pre = none ∧ Blk W G 3 #[.int .i64 0] ∧ Blk W (G + 1) 27 #[.int .i64 5]
def IxS (w : World) (c : Code) (pre : List Pc) (W : World) : Prop := IxSa (w.heap.size + 1 + 1) c pre W ∧ Below w.heap.size w W
theorem IS.own (w6 : World) (N B : Nat) (hB : w6.heap.size ≤ B) : OwnFrom B (IS w6 N) := OwnFrom.and (Own.from (fun s X Y row hs hg hr => by
      obtain ⟨s', al, e1, e2, e3, e4, e5, e6, e7, e8⟩ := hs
      exact ⟨s', al, e1, e2, e3, e4, e5, e6.kept_ hg hr, e7.kept_ hg hr, Nat.le_trans e8 hg.size⟩) _) (ownFrom_below (Nat.le_refl _) hB)
theorem IxS.own (w : World) (B : Nat) (hB : w.heap.size ≤ B) (c : Code) : OwnFrom B (IxS w c) := OwnFrom.and (Own.from (fun s X Y row hs hg hr => by
      obtain ⟨e1, e2, e3, e4⟩ := hs
      exact ⟨e1, e2, e3.kept_ hg hr, e4.kept_ hg hr⟩) _) (ownFrom_below (Nat.le_refl _) hB)
def SumP (R : Int × Int) (w : World) (e : Ending) (w' : World) : Prop := e = .returned (.tuple #[.int .i64 R.1, .int .i64 R.2]) ∧ Below w.heap.size w w'

theorem run_load_int {w : World} {g : Nat} {x : Value} (h : w.cell? ⟨g, 0, none⟩ = some x) : (loadVar 3 ⟨g, 0, none⟩).run Tryz.prog w = .ok x w := by
  simp [go_sem, h]
section
variable {F : Fence} {n : Nat} {fn : Func} {R : Ending → World → Prop} {tmps : Array Value} {W : World} {p q : Tmp} {D g g2 : Nat} {t u : TypeId} {x y : Value}
theorem ret_cc (h : fn.results = #[.cell p 3, .cell q 27]) (hp : tmps.getD p undef = .pointer (some ⟨g, 0, none⟩)) (hq : tmps.getD q undef = .pointer (some ⟨g2, 0, none⟩)) (hg : Blk W g t #[x]) (hg2 : Blk W g2 u #[y])
    (hR : R (.returned (.tuple #[x, y])) W) : bodyPostM F n Tryz.prog fn R .ret { tmps, defers := [] } W := by
  refine ⟨_, ?_, hR⟩
  rw [Array.getD_eq_getD_getElem?] at hp hq
  simp only [results, h]
  simp [Sem.run_bind, Result.andThen, hp, hq, asAddr, run_load_int (hg.cell 0), run_load_errno (hg2.cell 0)]
theorem ret_ccD (h : fn.results = #[.cell p 3, .cell q 27]) (hK : W.heap[D]? = some (.deferred (some []))) (hp : tmps.getD p undef = .pointer (some ⟨g, 0, none⟩)) (hq : tmps.getD q undef = .pointer (some ⟨g2, 0, none⟩)) (hg : Blk W g t #[x]) (hg2 : Blk W g2 u #[y])
    (hR : R (.returned (.tuple #[x, y])) (W.putObj D (.deferred none))) : bodyPostM F n Tryz.prog fn R .ret { tmps, defers := [{ target := .collected D, args := #[] }] } W := by
  have hr : ∀ r, some D = some r → ∃ o : Obj, W.heap[r]? = some o ∧ o.isCells = false := fun r e => by cases e; exact ⟨_, hK, rfl⟩
  have h3 := hg.kept_ (grownBy_putObj' W D (.deferred none)) hr
  have h4 := hg2.kept_ (grownBy_putObj' W D (.deferred none)) hr
  refine ⟨by simp, .inl ⟨_, _, rfl, run_takeDeferred hK, ?_⟩⟩
  refine ⟨_, ?_, hR⟩
  rw [Array.getD_eq_getD_getElem?] at hp hq
  simp only [results, h]
  simp [Sem.run_bind, Result.andThen, hp, hq, asAddr, run_load_int (h3.cell 0), run_load_errno (h4.cell 0)]
end
set_option maxRecDepth 100000 in
set_option maxHeartbeats 8000000 in
theorem sum_any (A A2 : Option Addr) (n n2 cap cap2 : Nat) (a v : List Int) (f t : Int) (w : World) (hs : SV w 1 A n cap (a.map encI)) (hs2 : SV w 1 A2 n2 cap2 (v.map encI)) (hn6 : n ≤ 1000000) :
    Calls Tryz.prog 78 #[.agg #[.slice A n cap, .slice A2 n2 cap2], .agg #[.int .i64 f, .int .i64 t]] w (SumP (sumQ a v f t) w) := by
  have HS := hide hs
  have HS2 := hide hs2
  have hn : a.length = n := by have := hs.len; simpa using this
  have hn2 : v.length = n2 := by have := hs2.len; simpa using this
  have HN := hide hn
  have HN2 := hide hn2
  obtain ⟨b1, hb1⟩ : ∃ B, stepRB a v = B := ⟨_, rfl⟩
  obtain ⟨b2, hb2⟩ : ∃ B, daysB f t = B := ⟨_, rfl⟩
  have K1 := hide hb1
  have K2 := hide hb2
  obtain ⟨R, hR⟩ : ∃ R, sumQ a v f t = R := ⟨_, rfl⟩
  rw [hR]
  have HR := hide hR
  clear hs hs2 hn hn2 hb1 hb2 hR
  refine (callsIn_wide (n := 6)).1 ?_
  refine callsIn_of_wp_marks Tryz.func78 rfl trivial ?_ rfl
  simp only [Tryz.ntmps78, List.size_toArray, List.length_cons, List.length_nil, Nat.reduceAdd, Nat.reduceSub, Array.replicate_succ, Array.replicate_zero, List.push_toArray, List.append_toArray, List.nil_append, List.cons_append]
  gi_wp2
  obtain ⟨w4, hw4⟩ : ∃ W, (((w.alloc (.cells #[.slice A n cap, .slice A2 n2 cap2] 127)).alloc (.cells #[.int .i64 f, .int .i64 t] 56)).alloc (.cells #[.int .i64 0] 3)).alloc (.cells #[.int .i64 0] 27) = W := ⟨_, rfl⟩
  have hA : Blk w4 w.heap.size 127 #[.slice A n cap, .slice A2 n2 cap2] := by rw [← hw4]; exact (((Blk.new _ _ _).alloc _).alloc _).alloc _
  have hB : Blk w4 (w.heap.size + 1) 56 #[.int .i64 f, .int .i64 t] := by rw [← hw4]; exact ((Blk.new' (by simp)).alloc _).alloc _
  have hC : Blk w4 (w.heap.size + 1 + 1) 3 #[.int .i64 0] := by rw [← hw4]; exact (Blk.new' (by simp)).alloc _
  have hE : Blk w4 (w.heap.size + 1 + 1 + 1) 27 #[.int .i64 0] := by rw [← hw4]; exact Blk.new' (by simp)
  have h4 : Below w.heap.size w w4 := by rw [← hw4]; exact ((((Below.refl _ _).alloc (Nat.le_refl _) _).alloc (by simp) _).alloc (by simp; omega) _).alloc (by simp; omega) _
  rw [hw4]
  clear hw4
  refine ⟨trivial, ?_⟩
  refine (callsIn_wide.2 (stepR_is K1.out w4 (HS.out.below h4) (HS2.out.below h4))).mono ?_
  rintro e w5 ⟨rfl, h5⟩
  have hA5 := hA.below h5 hA.lt
  have hB5 := hB.below h5 hB.lt
  have hC5 := hC.below h5 hC.lt
  have hE5 := hE.below h5 hE.lt
  have HB5 := hide (chain h4 h5)
  cases b1
  · have hRv : R = (0, 1) := by rw [← HR.out, sumQ, K1.out]; rfl
    subst hRv
    have q0 := hC5.cell 0
    have q1 := hE5.cell 0
    have q2 := hC5.frozen 0
    have q3 := hE5.frozen 0
    have q4 := hC5.lt
    have q5 := hE5.lt
    simp at q0 q1
    have HC5 := hide hC5
    have HE5 := hide hE5
    clear hA hB hC hE h4 h5 hA5 hB5 hC5 hE5
    gi_wp2
    refine ⟨trivial, ?_⟩
    gi_wp2
    exact ret_cc (p := 4) (q := 5) rfl rfl rfl ((HC5.out.set_ 0 (.int .i64 0)).far (by simp) _) ((HE5.out.far (by simp) _).set_ 0 (.int .i64 1)) ⟨rfl, (HB5.out.setCell (by simp; omega) _).setCell (by simp; omega) _⟩
  have y0 := hB5.cell 0
  have y1 := hB5.cell 1
  simp at y0 y1
  have HA5 := hide hA5
  have HB5b := hide hB5
  have HC5 := hide hC5
  have HE5 := hide hE5
  have la := hA5.lt
  have lb := hB5.lt
  have lc := hC5.lt
  have le := hE5.lt
  clear hA hB hC hE h4 h5 hA5 hB5 hC5 hE5
  gi_wp2
  refine ⟨trivial, ?_⟩
  gi_wp2
  refine (callsIn_wide.2 (fullS_is K2.out w5)).mono ?_
  rintro e w6 ⟨rfl, h6⟩
  have hC6 := HC5.out.below h6 lc
  have hE6 := HE5.out.below h6 le
  have HB6 := hide (chain HB5.out h6)
  have H6 := hide h6
  cases b2
  · have hRv : R = (0, 1) := by rw [← HR.out, sumQ, K1.out, K2.out]; rfl
    subst hRv
    have q0 := hC6.cell 0
    have q1 := hE6.cell 0
    have q2 := hC6.frozen 0
    have q3 := hE6.frozen 0
    have q4 := hC6.lt
    have q5 := hE6.lt
    simp at q0 q1
    have HC6 := hide hC6
    have HE6 := hide hE6
    clear hC6 hE6 h6 y0 y1
    gi_wp2
    exact ret_cc (p := 4) (q := 5) rfl rfl rfl ((HC6.out.set_ 0 (.int .i64 0)).far (by simp) _) ((HE6.out.far (by simp) _).set_ 0 (.int .i64 1)) ⟨rfl, (HB6.out.setCell (by simp; omega) _).setCell (by simp; omega) _⟩
  have hnn : n = n2 := by
    have := rsG_len K1.out
    rw [HN.out, HN2.out] at this
    exact this
  subst hnn
  have hA6 := HA5.out.below h6 la
  have hB6 := HB5b.out.below h6 lb
  obtain ⟨zs, hzs⟩ := pcs_of (pcL_ok K1.out (t := t) (r := a) (f := f) (by have := K2.out; simp [daysB] at this; omega) (by have := K2.out; simp [daysB] at this; omega) (by have := K2.out; simp [daysB] at this; omega))
  have HZS := hide hzs
  have HR2 := hide (show R = sumG (zs.map Subtype.val) 0 0 by rw [← HR.out, sumQ, K1.out, K2.out, hzs]; rfl)
  obtain ⟨w7, hw7⟩ : ∃ W, (w6.alloc (.cells #[.int .i64 0] 3)).alloc (.cells #[.int .i64 0] 3) = W := ⟨_, rfl⟩
  have h67 : Below w6.heap.size w6 w7 := by rw [← hw7]; exact ((Below.refl _ _).alloc (Nat.le_refl _) _).alloc (by simp) _
  have hS7 : Blk w7 w6.heap.size 3 #[.int .i64 0] := by rw [← hw7]; exact (Blk.new _ _ _).alloc _
  have hT7 : Blk w7 (w6.heap.size + 1) 3 #[.int .i64 0] := by rw [← hw7]; exact Blk.new' (by simp)
  have hs7 : w7.heap.size = w6.heap.size + 2 := by rw [← hw7]; simp
  have x0 := hA6.cell 0
  have x1 := hA6.cell 1
  have x2 := hB6.cell 0
  have x3 := hB6.cell 1
  simp at x0 x1 x2 x3
  have l0 := hA6.lt
  have l1 := hB6.lt
  have HW7 := hide hw7
  have HC6 := hide hC6
  have HE6 := hide hE6
  have H67 := hide h67
  have HS7 := hide hS7
  have HT7 := hide hT7
  have HSZ7 := hide hs7
  have l6 : w.heap.size + 3 < w6.heap.size := by have := hE6.lt; omega
  clear hw7 hC6 hE6 h67 hS7 hT7 hs7 h6 hA6 hB6 y0 y1 hzs
  gi_wp2
  rw [show (w6.alloc (.cells #[.int .i64 0] 3)).alloc (.cells #[.int .i64 0] 3) = w7 from HW7.out]
  clear x0 x1 x2 x3 HW7
  refine ⟨trivial, ?_⟩
  refine (pieces_in 5 f t A A2 n n cap cap2 w7).mono ?_
  rintro e w' ⟨rfl, rfl⟩
  obtain ⟨w8, hw8⟩ : ∃ W, (w7.alloc (.cells #[.slice A n cap, .slice A2 n cap2] 127)).alloc (.cells #[.int .i64 f, .int .i64 t] 56) = W := ⟨_, rfl⟩
  have h78 : Below w7.heap.size w7 w8 := by rw [← hw8]; exact ((Below.refl _ _).alloc (Nat.le_refl _) _).alloc (by simp) _
  have hF8 : Blk w8 w7.heap.size 127 #[.slice A n cap, .slice A2 n cap2] := by rw [← hw8]; exact (Blk.new _ _ _).alloc _
  have hP8 : Blk w8 (w7.heap.size + 1) 56 #[.int .i64 f, .int .i64 t] := by rw [← hw8]; exact Blk.new' (by simp)
  have hs8 : w8.heap.size = w6.heap.size + 4 := by rw [← hw8]; simp [HSZ7.out]
  rw [hw8]
  rw [HSZ7.out] at hF8 hP8 ⊢
  clear hw8
  gi_wp2
  have hC8 := hide ((HC6.out.below H67.out (by omega)).below h78 (by have := HSZ7.out; omega))
  have hE8 := hide ((HE6.out.below H67.out (by omega)).below h78 (by have := HSZ7.out; omega))
  have hS8 := hide (HS7.out.below h78 (by have := HSZ7.out; omega))
  have hT8 := hide (HT7.out.below h78 (by have := HSZ7.out; omega))
  have hb8 := hide (H67.out.trans (h78.mono (by have := HSZ7.out; omega)))
  have hw8 := hide (chain HB6.out (show Below w6.heap.size w6 w8 from hb8.out))
  clear h78
  refine wpIn_rangeFunc_ownH rfl (by omega) (gf := 157) (lb := #[.pointer (some ⟨w6.heap.size + 2 + 1, 0, none⟩), .pointer (some ⟨w6.heap.size + 2, 0, none⟩)]) rfl trivial (enters_of Tryz.func157 (by kernel_rfl) rfl)
    (pieces_stops 5 (by omega) w (w6.heap.size + 2 + 1) (w6.heap.size + 2) w6.heap.size n cap cap2 A A2 a v f t zs HZS.out HS.out HS2.out K1.out hn6 HB6.out.size w8 (by omega) (by omega) (by omega) ⟨hP8.cell 0, hP8.cell 1⟩ ⟨hF8.cell 0, hF8.cell 1⟩ hw8.out)
    KpS.trans (fun W l o o' h1 h2 h3 h4 => KpS.put (w := w8) (by omega) (by omega) (by omega) W l o o' h1 h2 h3 h4) (Below.refl _ _) (fun _ => rfl)
    (IS w6 w8.heap.size) (IxS w) (IS.own w6 _ _ (by omega)) (IxS.own w _ (by have := HB6.out.size; omega))
    ⟨⟨0, 0, rfl, by omega, by omega, by omega, by omega, hS8.out, hT8.out, Nat.le_refl _⟩, hb8.out⟩
    (fun x a' W => ∃ Bx, w8.heap.size ≤ Bx ∧ Blk W Bx 56 #[.int .i64 x.1.1, .int .i64 x.1.2.1] ∧ a' = { tmps := #[.agg #[.slice A n cap, .slice A2 n cap2], .agg #[.int .i64 f, .int .i64 t], .pointer (some ⟨w.heap.size, 0, none⟩), .pointer (some ⟨w.heap.size + 1, 0, none⟩), .pointer (some ⟨w.heap.size + 1 + 1, 0, none⟩), .pointer (some ⟨w.heap.size + 1 + 1 + 1, 0, none⟩), .pointer (some ⟨w6.heap.size, 0, none⟩), .pointer (some ⟨w6.heap.size + 1, 0, none⟩), .pointer (some ⟨Bx, 0, none⟩), .int .i64 x.1.2.2, undef, undef, .agg #[.slice A n cap, .slice A2 n cap2], .bool true, .bool false, .bool false, .agg #[.int .i64 f, .int .i64 t], .bool true, .bool false, .bool false, .agg #[.slice A n cap, .slice A2 n cap2], .agg #[.int .i64 f, .int .i64 t], .func (.func 157) #[] #[.pointer (some ⟨w6.heap.size + 2 + 1, 0, none⟩), .pointer (some ⟨w6.heap.size + 2, 0, none⟩)], .agg #[.int .i64 x.1.1, .int .i64 x.1.2.1], .int .i64 x.1.2.2, undef, undef, undef, undef, undef, undef, undef, undef, undef, undef, undef, undef, undef, undef, undef, undef, undef, undef, undef, undef, undef, undef, undef, undef, undef, undef], defers := [] })
    (fun x a' _ X Y row hs hg hr => by obtain ⟨Bx, h1, h2, h3⟩ := hs; exact ⟨Bx, h1, h2.kept_ hg (fun r e => (hr r e).2), h3⟩)
    ?assign ?body ?done ?stop
  case assign =>
    rintro l pre ⟨⟨p, q, vv⟩, hv⟩ W K ⟨⟨s, al, e1, e2, e3, e4, e5, e6, e7, e8⟩, hi2⟩ hK
    dsimp only [encPc]
    gi_wp2
    exact hK _ _ ((KeepsOthers.alloc _ _).from _) (KpS.below ((Below.refl _ _).alloc (Nat.le_refl _) _) hi2.size (by omega) (by omega)) ⟨⟨s, al, e1, e2, e3, e4, e5, e6.alloc _, e7.alloc _, by simp; omega⟩, hi2.alloc hi2.size _⟩ ⟨W.heap.size, e8, Blk.new _ _ _, rfl⟩
  case body =>
    rintro l pre ⟨⟨p, q, vv⟩, hx⟩ a' W hl ⟨r, hr⟩ ⟨⟨s, al, e1, e2, e3, e4, e5, e6, e7, e8⟩, hi2⟩ ⟨Bx, hBx, bX, rfl⟩ hlt
    dsimp only at bX ⊢
    obtain ⟨g1, g2, g3, g4, g5⟩ := hx
    dsimp only at g1 g2 g3 g4 g5
    have HE1 := hide e1
    have HI2 := hide hi2
    have HSB := hide e6
    have HTB := hide e7
    have c0 := bX.cell 0
    have c1 := bX.cell 1
    have s0 := e6.cell 0
    have t0 := e7.cell 0
    have sf := e6.frozen 0
    have tf := e7.frozen 0
    have sl := e6.lt
    have tl := e7.lt
    have hC := HC6.out.below hi2 (by omega)
    have hE := HE6.out.below hi2 (by omega)
    have z0 := hC.cell 0
    have z1 := hE.cell 0
    have zf := hC.frozen 0
    have ef := hE.frozen 0
    have zl := hC.lt
    have el := hE.lt
    simp at c0 c1 s0 t0 z0 z1
    have HCW := hide hC
    have HEW := hide hE
    have HSZ8 := hide hs8
    clear e1 e6 e7 hC hE hr hi2 hs8 bX
    by_cases hov : (4000000000000000000 - al) / (q - p) < max vv (-vv)
    · have HN := hide (show runS (pre ++ [⟨(p, q, vv), ⟨g1, g2, g3, g4, g5⟩⟩]) = none by rw [runS_snoc, HE1.out, stepS, if_pos hov])
      gi_wp2
      refine ⟨((KeepsOthers.setCell _ _ _).trans (KeepsOthers.setCell _ _ _)).from _, ⟨⟨rfl, HN.out, (HCW.out.set_ 0 (.int .i64 0)).far (by simp) _, (HEW.out.far (by simp) _).set_ 0 (.int .i64 5)⟩, ?_⟩⟩
      exact ((HB6.out.trans (HI2.out.mono (by omega))).setCell (by simp; omega) _).setCell (by simp; omega) _
    · have hN := hide (show runS (pre ++ [⟨(p, q, vv), ⟨g1, g2, g3, g4, g5⟩⟩]) = some (s + (q - p) * vv, al + (q - p) * max vv (-vv)) by rw [runS_snoc, HE1.out, stepS, if_neg hov])
      have hmx : (q - p) * max vv (-vv) ≤ 4000000000000000000 - al := by
        have h1 : max vv (-vv) ≤ (4000000000000000000 - al) / (q - p) := by omega
        have h2 := (Int.le_ediv_iff_mul_le (by omega : 0 < q - p)).1 h1
        rw [Int.mul_comm] at h2; exact h2
      have hm0 : 0 ≤ (q - p) * max vv (-vv) := Int.mul_nonneg (by omega) (by omega)
      have hv1 : (q - p) * vv ≤ (q - p) * max vv (-vv) := Int.mul_le_mul_of_nonneg_left (by omega) (by omega)
      have hv2 : -((q - p) * max vv (-vv)) ≤ (q - p) * vv := by
        have h3 : (q - p) * (-vv) ≤ (q - p) * max vv (-vv) := Int.mul_le_mul_of_nonneg_left (by omega) (by omega)
        rw [Int.mul_neg] at h3; omega
      gi_wp2
      refine ⟨((KeepsOthers.setCell _ _ _).trans (KeepsOthers.setCell _ _ _)).from _, ⟨((Below.refl _ _).setCell (by simp) _).setCell (by simp) _, ?_, ?_⟩, ⟨⟨_, _, hN.out, by omega, by omega, by omega, by omega, (HSB.out.set_ 0 _).far (by simp) _, (HTB.out.far (by simp) _).set_ 0 _, by simp; omega⟩, (HI2.out.setCell (by simp) _).setCell (by simp) _⟩⟩
      · exact (heap_setCell_other _ ⟨w6.heap.size + 1, 0, none⟩ _ _ (by simp)).trans (heap_setCell_other _ ⟨w6.heap.size, 0, none⟩ _ _ (by simp; omega))
      · exact (heap_setCell_other _ ⟨w6.heap.size + 1, 0, none⟩ _ _ (by simp)).trans (heap_setCell_other _ ⟨w6.heap.size, 0, none⟩ _ _ (by simp))
  case done =>
    rintro D ys W hD rfl ⟨⟨s, al, e1, e2, e3, e4, e5, e6, e7, e8⟩, hi2⟩ hK
    have hC := HC6.out.below hi2 (by omega)
    have hE := HE6.out.below hi2 (by omega)
    have s0 := e6.cell 0
    have z0 := hC.cell 0
    have z1 := hE.cell 0
    have zf := hC.frozen 0
    have ef := hE.frozen 0
    have zl := hC.lt
    have el := hE.lt
    simp at s0 z0 z1
    have HCW := hide hC
    have HEW := hide hE
    have HSZ8 := hide hs8
    have HI2 := hide hi2
    have HRR := hide (show R = (s, 0) by rw [HR2.out, sumG_run]; rw [runS] at e1; rw [e1])
    have HK := hide hK
    clear e1 e6 e7 hC hE hi2 hs8
    gi_wp2
    have hk2 := (KeepsOthers.setCell W ⟨w.heap.size + 1 + 1, 0, none⟩ (.int .i64 s)).trans (KeepsOthers.setCell _ ⟨w.heap.size + 1 + 1 + 1, 0, none⟩ (.int .i64 0))
    have hK2 := hk2.same D _ HK.out rfl
    refine ret_ccD (p := 4) (q := 5) rfl hK2 rfl rfl ((HCW.out.set_ 0 (.int .i64 s)).far (by simp) _) ((HEW.out.far (by simp) _).set_ 0 (.int .i64 0)) ⟨by rw [HRR.out], ?_⟩
    exact (((HB6.out.trans (HI2.out.mono (by omega))).setCell (by simp; omega) _).setCell (by simp; omega) _).trans (belowK_b (w := w) (Nat.le_refl _) _ D _ _ (by have := HSZ8.out; omega) hK2 rfl rfl)
  case stop =>
    rintro D c pre W hD ⟨k, hk, rfl⟩ ⟨⟨rfl, e2, e3, e4⟩, hb⟩ hK
    have HRR := hide (show R = (0, 5) by
      have e2' := runS_none e2
      rw [HR2.out, sumG_run]; rw [runS] at e2'; rw [e2'])
    gi_wp2
    exact ret_ccD (p := 4) (q := 5) rfl hK rfl rfl e3 e4 ⟨by rw [HRR.out], hb.trans (belowK_b (w := w) (Nat.le_refl _) W D _ _ (by omega) hK rfl rfl)⟩
end Go.Proofs.YtmfohnchnbgbaaaGreatDoor

/- What is earned: one place more of the curve. -/
namespace Go.Proofs.YtmfohnchnbgbaaaGreatDoor
open Go.RowKit

/-- A place and a value more; one on the same day is forgotten. -/
def popV (d : Int) (s : List Int × List Int) : List Int × List Int := if s.1.getLast? = some d then (s.1.dropLast, s.2.dropLast) else s
def pushV (d v : Int) (s : List Int × List Int) : List Int × List Int := if v ≠ (s.2.getLast?).getD 0 ∧ d ≤ 292194 then (s.1 ++ [d], s.2 ++ [v]) else s
def addV (d v : Int) (s : List Int × List Int) : List Int × List Int := pushV d v (popV d s)
structure FS (w : World) (B F : Nat) (A A2 : Option Addr) (c c2 : Nat) (s : List Int × List Int) : Prop where
  f : Blk w F 127 #[.slice A s.1.length c, .slice A2 s.2.length c2]
  o1 : OwnS w B 3 1 A s.1.length c (s.1.map encI)
  o2 : OwnS w B 3 1 A2 s.2.length c2 (s.2.map encI)
  ap : ∀ k, blk A = some k → blk A2 ≠ some k
  gt : F < B
  sz : B ≤ w.heap.size
  ln : s.1.length = s.2.length
structure AdcP (w : World) (B F : Nat) (A A2 : Option Addr) (s' : List Int × List Int) (e : Ending) (w' : World) : Prop where
  e : e = .returned (.tuple #[])
  ex : ∃ (A' A2' : Option Addr) (c c2 : Nat), FS w' B F A' A2' c c2 s' ∧ ∀ b, b < w.heap.size → (blk A' = some b → blk A = some b) ∧ (blk A2' = some b → blk A2 = some b)
  fr : ∀ b, b < w.heap.size → b ≠ F → blk A ≠ some b → blk A2 ≠ some b → w'.heap[b]? = w.heap[b]?
  g : w.heap.size ≤ w'.heap.size
  k : w'.os = w.os ∧ w'.tape = w.tape ∧ w'.output = w.output
def popB (d : Int) (s : List Int × List Int) : Bool := s.1.getLast? == some d
theorem popV_yes {d : Int} {s : List Int × List Int} (h : popB d s = true) : popV d s = (s.1.dropLast, s.2.dropLast) := by rw [popV, if_pos (by simpa [popB] using h)]
theorem popV_no {d : Int} {s : List Int × List Int} (h : popB d s = false) : popV d s = s := by rw [popV, if_neg (by simpa [popB] using h)]
/-- What the first part leaves. -/
structure PopP (w : World) (B F : Nat) (A A2 : Option Addr) (c c2 : Nat) (s' : List Int × List Int) (w' : World) : Prop where
  fs : FS w' B F A A2 c c2 s'
  fr : ∀ b, b ≠ F → w'.heap[b]? = w.heap[b]?
  g : w'.heap.size = w.heap.size
  k : w'.os = w.os ∧ w'.tape = w.tape ∧ w'.output = w.output
theorem FS.pop {w : World} {B F : Nat} {A A2 : Option Addr} {c c2 : Nat} {d y : Int} {r q : List Int} (h : FS w B F A A2 c c2 (r ++ [d], q ++ [y])) :
    PopP w B F A A2 c c2 (r, q) ((w.setCell ⟨F, 0, none⟩ (.slice A r.length c)).setCell ⟨F, 1, none⟩ (.slice A2 q.length c2)).drew := by
  have hgt := h.gt
  have h1 := h.o1.lt
  have h2 := h.o2.lt
  have f1 := h.o1.firsts (k := r.length) (by simp)
  have f2 := h.o2.firsts (k := q.length) (by simp)
  simp only [List.map_append, List.map_cons, List.map_nil] at f1 f2
  rw [List.take_left' (by simp)] at f1 f2
  refine ⟨⟨?_, ?_, ?_, h.ap, h.gt, by simpa using h.sz, by have := h.ln; simpa using this⟩, fun b hb => ?_, by simp, rfl, rfl, rfl⟩
  · have := ((h.f.set_ 0 (.slice A r.length c)).set_ 1 (.slice A2 q.length c2)).drew
    simpa using this
  · exact ((f1.far (fun k hk => by have := h1 k hk; simp; omega) _).far (fun k hk => by have := h1 k hk; simp; omega) _).drew
  · exact ((f2.far (fun k hk => by have := h2 k hk; simp; omega) _).far (fun k hk => by have := h2 k hk; simp; omega) _).drew
  · exact (heap_setCell_other _ ⟨F, 1, none⟩ b _ hb).trans (heap_setCell_other _ ⟨F, 0, none⟩ b _ hb)

theorem Below.grown_base {w1 W wb : World} {row : Option Nat} (hg : W.grownBy wb row) (hb : Below w1.heap.size w1 W) : (∀ b, b < w1.heap.size → row ≠ some b → wb.heap[b]? = w1.heap[b]?) ∧ (wb.os = w1.os ∧ wb.tape = w1.tape ∧ wb.output = w1.output) ∧ w1.heap.size ≤ wb.heap.size :=
  ⟨fun b h1 h2 => (hg.block b (Nat.lt_of_lt_of_le h1 hb.size) (fun e => h2 e.symm)).trans (hb.block b h1), ⟨hg.os.trans hb.os, hg.tape.trans hb.tape, hg.output.trans hb.output⟩, Nat.le_trans hb.size hg.size⟩
theorem ap_of {A A2 : Option Addr} (h : ∀ k, blk A = some k → blk A2 ≠ some k) : blk A2 = none ∨ blk A2 ≠ blk A := by
  cases h1 : blk A2 with
  | none => exact .inl rfl
  | some k => exact .inr (fun e => h k e.symm h1)
theorem new_of {w1 : World} {A A3 : Option Addr} {z : Nat} (h : blk A3 = blk A ∨ blk A3 = some z) (hz : w1.heap.size ≤ z) : ∀ b, b < w1.heap.size → blk A3 = some b → blk A = some b := by
  intro b hb h3
  rcases h with h | h
  · rw [← h]; exact h3
  · rw [h] at h3; cases h3; omega
theorem FS.fin {wd : World} {B F c3 c4 n1 : Nat} {A3 A4 : Option Addr} {x0 x1 : Value} {a1 v1 : List Int} {d v : Int} (hF : Blk wd F 127 #[x0, x1]) (o3 : OwnS wd B 3 1 A3 (n1 + 1) c3 (a1.map encI ++ [d].map encI)) (o4 : OwnS wd B 3 1 A4 (n1 + 1) c4 (v1.map encI ++ [v].map encI))
    (ap : ∀ k, blk A3 = some k → blk A4 ≠ some k) (gt : F < B) (sz : B ≤ wd.heap.size) (h1 : a1.length = n1) (h2 : v1.length = n1) : FS ((wd.setCell ⟨F, 0, none⟩ (.slice A3 (n1 + 1) c3)).setCell ⟨F, 1, none⟩ (.slice A4 (n1 + 1) c4)) B F A3 A4 c3 c4 (a1 ++ [d], v1 ++ [v]) := by
  have h3 := o3.lt
  have h4 := o4.lt
  refine ⟨?_, ?_, ?_, ap, gt, by simpa using sz, by simp [h1, h2]⟩
  · have := (hF.set_ 0 (.slice A3 (n1 + 1) c3)).set_ 1 (.slice A4 (n1 + 1) c4)
    simpa [h1, h2] using this
  · have := (o3.far (p := ⟨F, 0, none⟩) (fun k hk => by have := h3 k hk; simp; omega) (.slice A3 (n1 + 1) c3)).far (p := ⟨F, 1, none⟩) (fun k hk => by have := h3 k hk; simp; omega) (.slice A4 (n1 + 1) c4)
    simpa [h1] using this
  · have := (o4.far (p := ⟨F, 0, none⟩) (fun k hk => by have := h4 k hk; simp; omega) (.slice A3 (n1 + 1) c3)).far (p := ⟨F, 1, none⟩) (fun k hk => by have := h4 k hk; simp; omega) (.slice A4 (n1 + 1) c4)
    simpa [h2] using this
theorem FS.drew {w : World} {B F : Nat} {A A2 : Option Addr} {c c2 : Nat} {s : List Int × List Int} (h : FS w B F A A2 c c2 s) : FS w.drew B F A A2 c c2 s := ⟨h.f.drew, h.o1.drew, h.o2.drew, h.ap, h.gt, h.sz, h.ln⟩
end Go.Proofs.YtmfohnchnbgbaaaGreatDoor
