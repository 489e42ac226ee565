/- Part 26 of the proof. -/
import Derived.Test.YtmfohnchnbgbaaaGreatTtM05
import Derived.Test.YtmfohnchnbgbaaaGreatTtM07
import Derived.Test.YtmfohnchnbgbaaaGreatTtM11
import Derived.Test.YtmfohnchnbgbaaaGreatTtM24
import Derived.Test.YtmfohnchnbgbaaaGreatTtM25
/- TopClaimsTriangle: the plain law: the last diagonal is, year by year of the losses, what the files were paid. -/
namespace Go.Proofs.YtmfohnchnbgbaaaGreat
open Go.RowKit

/-- An amount more in a place. -/
def addAt (Y : List Int) (q : Nat × Int) : List Int := Y.set q.1 (Y.getD q.1 0 + q.2)
def sumAt (i : Nat) (l : List (Nat × Int)) : Int := ((l.filter fun q => decide (q.1 = i)).map Prod.snd).sum
theorem addAt_len (Y : List Int) (q : Nat × Int) : (addAt Y q).length = Y.length := by simp [addAt]
theorem addAt_get {Y : List Int} {q : Nat × Int} {i : Nat} (hi : i < Y.length) : (addAt Y q).getD i 0 = Y.getD i 0 + if q.1 = i then q.2 else 0 := by
  unfold addAt
  rw [List.getD_eq_getElem?_getD, List.getElem?_set]
  by_cases h : q.1 = i
  · subst h
    rw [if_pos rfl, if_pos hi, if_pos rfl]; rfl
  · rw [if_neg h, if_neg h, List.getD_eq_getElem?_getD]; simp
theorem sumAt_cons (i : Nat) (q : Nat × Int) (l : List (Nat × Int)) : sumAt i (q :: l) = (if q.1 = i then q.2 else 0) + sumAt i l := by
  unfold sumAt
  by_cases h : q.1 = i
  · rw [if_pos h, List.filter_cons_of_pos (by simpa using h)]; simp
  · rw [if_neg h, List.filter_cons_of_neg (by simpa using h)]; simp
theorem fold_len : ∀ (l : List (Nat × Int)) (Y : List Int), (l.foldl addAt Y).length = Y.length
  | [], _ => rfl
  | q :: l, Y => by rw [List.foldl_cons, fold_len l, addAt_len]
theorem fold_get : ∀ (l : List (Nat × Int)) {Y : List Int} {i : Nat}, i < Y.length → (l.foldl addAt Y).getD i 0 = Y.getD i 0 + sumAt i l
  | [], _, _, _ => by simp [sumAt]
  | q :: l, Y, i, h => by rw [List.foldl_cons, fold_get l (by rw [addAt_len]; exact h), addAt_get h, sumAt_cons]; omega
theorem fold_ext {l l' : List (Nat × Int)} {Y : List Int} (h : ∀ i, i < Y.length → sumAt i l = sumAt i l') : l.foldl addAt Y = l'.foldl addAt Y := by
  apply List.ext_getElem?
  intro i
  by_cases hi : i < Y.length
  · have h1 := fold_get l hi
    have h2 := fold_get l' hi
    rw [h i hi] at h1
    obtain ⟨a, ha⟩ := get_of (l := l.foldl addAt Y) (k := i) (by rw [fold_len]; exact hi)
    obtain ⟨b, hb⟩ := get_of (l := l'.foldl addAt Y) (k := i) (by rw [fold_len]; exact hi)
    rw [List.getD_eq_getElem?_getD, ha] at h1
    rw [List.getD_eq_getElem?_getD, hb] at h2
    rw [ha, hb]
    simp only [Option.getD_some] at h1 h2
    rw [h1, h2]
  · rw [List.getElem?_eq_none (by rw [fold_len]; omega), List.getElem?_eq_none (by rw [fold_len]; omega)]
theorem addAt_zero (Y : List Int) (i : Nat) : addAt Y (i, 0) = Y := by
  unfold addAt
  apply List.ext_getElem?
  intro j
  rw [List.getElem?_set]
  by_cases h : i = j
  · subst h
    by_cases hi : i < Y.length
    · obtain ⟨a, ha⟩ := get_of hi
      rw [if_pos rfl, if_pos hi, List.getD_eq_getElem?_getD, ha]
      simp
    · simp [hi]
  · rw [if_neg h]

/-! ### The diagonal -/
theorem diag_fold {f : Int} {n : Nat} : ∀ {l : List R3} {c c' : List (List Int)}, Shape n c → (∀ x ∈ l, Fits f n x) → putAll f c l = some c' → c'.map lastI = (l.map fun x => (idxO f x, x.m)).foldl addAt (c.map lastI)
  | [], c, c', _, _, h => by simp [putAll] at h; subst h; rfl
  | x :: l, c, c', hs, hf, h => by
    rw [putAll] at h
    split at h
    · rename_i hc
      obtain ⟨_, h2, h3, h4, h5, _⟩ := hf x (by simp)
      have := diag_fold (shape_step hs h5 hc) (fun y hy => hf y (by simp [hy])) h
      obtain ⟨r, hr⟩ := get_of (l := c) (k := idxO f x) (by rw [hs.1]; exact h2)
      have hl := (hs.2 _ _ hr).1
      have er : rowO f c x = moreL (devO x) x.m r := by rw [rowO, List.getD_eq_getElem?_getD, hr]; rfl
      have eg : (c.map lastI).getD (idxO f x) 0 = lastI r := by rw [List.getD_eq_getElem?_getD, List.getElem?_map, hr]; rfl
      rw [this, List.map_cons, List.foldl_cons, List.map_set, er, last_more h3 (by omega)]
      unfold addAt
      rw [eg]
    · cases h
theorem zeros_last (n : Nat) : (zerosT n).map lastI = List.replicate n 0 := by
  apply List.ext_getElem?
  intro i
  rw [List.getElem?_map, List.getElem?_replicate]
  by_cases hi : i < n
  · rw [zerosT_get hi, if_pos hi]
    show some (lastI (List.replicate (n - i) 0)) = _
    rw [lastI, List.getLast?_eq_getElem?, List.getElem?_replicate]
    split <;> rfl
  · rw [List.getElem?_eq_none (by rw [zerosT_len]; omega), if_neg hi]; rfl
theorem diag_rows {l : List R3} (h : ofE l = 0) : diagL (fromL l) (ofC l) = (l.map fun x => (idxO (fromL l) x, x.m)).foldl addAt (List.replicate (yearsN l) 0) := by
  obtain ⟨hn, hc, ho, hs, hr, _⟩ := made h
  rw [diagL, if_pos hr, diag_fold (shape_zeros _) (fun x hx => fits_all hc hn hx) ho, zeros_last]

/-! ### Files and rows -/
/-- The files' years, and what they were paid. -/
def ixF (F : Int) (L : List Fl) (k : Nat) : Nat := (yrV (lossAt L (k : Int)) - F).toNat
def filesQ (F : Int) (L : List Fl) (O : List R3) : List (Nat × Int) := (List.range L.length).map fun k => (ixF F L k, byF k O)
theorem sumAt_map (i : Nat) (ix : Nat → Nat) (a b : Nat → Int) : ∀ l : List Nat, sumAt i (l.map fun k => (ix k, a k + b k)) = sumAt i (l.map fun k => (ix k, a k)) + sumAt i (l.map fun k => (ix k, b k))
  | [] => by simp [sumAt]
  | k :: l => by
    rw [List.map_cons, List.map_cons, List.map_cons, sumAt_cons, sumAt_cons, sumAt_cons, sumAt_map i ix a b l]
    simp only
    split <;> omega
theorem sumAt_none (i : Nat) (ix : Nat → Nat) (f : Nat) (m : Int) : ∀ l : List Nat, f ∉ l → sumAt i (l.map fun k => (ix k, if f = k then m else 0)) = 0
  | [], _ => by simp [sumAt]
  | k :: l, h => by
    rw [List.map_cons, sumAt_cons, sumAt_none i ix f m l (fun hl => h (by simp [hl])), if_neg (show ¬ f = k from fun e => h (by simp [e]))]
    simp
theorem sumAt_one (i : Nat) (ix : Nat → Nat) (f : Nat) (m : Int) : ∀ l : List Nat, l.Nodup → f ∈ l → sumAt i (l.map fun k => (ix k, if f = k then m else 0)) = if ix f = i then m else 0
  | [], _, h => by simp at h
  | k :: l, hd, h => by
    rw [List.nodup_cons] at hd
    rw [List.map_cons, sumAt_cons]
    rcases List.mem_cons.1 h with rfl | h
    · rw [sumAt_none i ix f m l hd.1, if_pos rfl]; simp
    · have hne : f ≠ k := fun e => hd.1 (by rw [← e]; exact h)
      rw [if_neg hne, sumAt_one i ix f m l hd.2 h]; simp
theorem byF_cons (f : Nat) (x : R3) (l : List R3) : byF f (x :: l) = (if x.a = (f : Int) then x.m else 0) + byF f l := by
  unfold byF
  by_cases hc : x.a = (f : Int) <;> simp [hc]
theorem files_rows (i : Nat) (F : Int) (L : List Fl) : ∀ O : List R3, (∀ r ∈ O, ∃ f : Nat, r.a = (f : Int) ∧ f < L.length) →
    sumAt i (filesQ F L O) = sumAt i (O.map fun r => (idxO F (crow L r), r.m))
  | [], _ => by
    have : ∀ l : List Nat, sumAt i (l.map fun k => (ixF F L k, byF k [])) = 0 := fun l => by
      induction l with
      | nil => rfl
      | cons k l ih => rw [List.map_cons, sumAt_cons, ih]; simp [byF]
    rw [filesQ, this]; rfl
  | r :: O, h => by
    obtain ⟨f, hf, hfn⟩ := h r (by simp)
    have ih := files_rows i F L O (fun x hx => h x (by simp [hx]))
    have e : filesQ F L (r :: O) = (List.range L.length).map fun k => (ixF F L k, (if f = k then r.m else 0) + byF k O) := by
      unfold filesQ
      apply List.map_congr_left
      intro k _
      rw [byF_cons]
      by_cases hk : f = k
      · subst hk
        rw [if_pos hf, if_pos rfl]
      · rw [if_neg hk, if_neg (by omega)]
    rw [e, sumAt_map, sumAt_one i (ixF F L) f r.m _ List.nodup_range (List.mem_range.2 hfn), List.map_cons, sumAt_cons]
    unfold filesQ at ih
    rw [ih]
    congr 1
    show (if ixF F L f = i then r.m else 0) = if (yrV (lossAt L r.a) - F).toNat = i then r.m else 0
    rw [hf]; rfl
/-- All that the loops of TopClaimsTriangle need. -/
structure TriQ (F : Int) (N : Nat) (L : List Fl) (O : List R3) (D : List Int) : Prop where
  n0 : 1 ≤ N
  n1 : N ≤ 20
  f0 : 1601 ≤ F
  f1 : F ≤ 2401
  len : D.length = N
  q : D = (filesQ F L O).foldl addAt (List.replicate N 0)
  tot : sumI D = (O.map (·.m)).sum
  yr : ∀ (k : Nat) (x : Fl), L[k]? = some x → byF k O ≠ 0 → 1 ≤ x.c.loss ∧ x.c.loss ≤ 292194 ∧ F ≤ yrV x.c.loss ∧ yrV x.c.loss < F + N
theorem byF_mem {f : Nat} : ∀ {O : List R3}, byF f O ≠ 0 → ∃ r ∈ O, r.a = (f : Int)
  | [], h => absurd rfl h
  | r :: O, h => by
    by_cases hr : r.a = (f : Int)
    · exact ⟨r, by simp, hr⟩
    · rw [byF_cons, if_neg hr] at h
      obtain ⟨x, hx, hxa⟩ := byF_mem (f := f) (O := O) (by omega)
      exact ⟨x, by simp [hx], hxa⟩
theorem tri_files {c : Cv} {L : List Fl} (hE : checkQ c L = 0) (hO : ofE (crL c L) = 0) : TriQ (fromL (crL c L)) (yearsN (crL c L)) L (paidS c L).out (diagL (fromL (crL c L)) (ofC (crL c L))) := by
  have hcr : crL c L = (paidS c L).out.map (crow L) := by rw [crL, if_pos hE]
  obtain ⟨hn, hc, ho, hs, hr, hy1, hy2, hf1, hf2, hl⟩ := made hO
  have hro := (paid_inv (check_zero hE).1).ro
  refine ⟨hy1, hy2, hf1, hf2, by rw [diagL, if_pos hr, List.length_map, hl], ?_, ?_, fun k x hx hb => ?_⟩
  · rw [diag_rows hO]
    refine fold_ext fun i _ => ?_
    rw [files_rows i _ L _ (fun r hr => (hro r hr).1)]
    conv => lhs; arg 2; arg 2; rw [hcr]
    rw [List.map_map]
    rfl
  · rw [diag_sum hO, sumM]
    have h1 : (crL c L).map (fun r => r.m) = (paidS c L).out.map (fun r => r.m) := by rw [hcr, List.map_map]; rfl
    rw [h1]
    have : ∀ l : List Int, sumI l = l.sum := fun l => by
      induction l with
      | nil => rfl
      | cons x r ih => rw [sumI, ih, List.sum_cons]
    exact this _
  · obtain ⟨r, hr1, hr2⟩ := byF_mem hb
    have hm : crow L r ∈ crL c L := by rw [hcr]; exact List.mem_map.2 ⟨r, hr1, rfl⟩
    have h1 := fits_all hc hn hm
    have h2 := chk_ok (chkL_ok.1 hc _ hm)
    rw [crow_eq hr2 hx] at h1 h2
    obtain ⟨a1, a2, _⟩ := h1
    simp only at h2
    unfold idxO at a2
    simp only at a1 a2
    exact ⟨h2.1, by omega, a1, by omega⟩
theorem filesQ_get {F : Int} {L : List Fl} {O : List R3} {k : Nat} {x : Fl} (hx : L[k]? = some x) : (filesQ F L O)[k]? = some ((yrV x.c.loss - F).toNat, byF k O) := by
  unfold filesQ
  rw [List.getElem?_map, List.getElem?_range (lt_of_get hx)]
  show some (ixF F L k, byF k O) = _
  have : lossAt L (k : Int) = x.c.loss := by unfold lossAt; rw [Int.toNat_natCast, hx]; rfl
  rw [ixF, this]
theorem filesQ_sum {F : Int} {L : List Fl} {K : Nat} {s : PS} (hi : PInv L.length K s) : ((filesQ F L s.out).map Prod.snd).sum = s.all := by
  have e : (filesQ F L s.out).map Prod.snd = s.pd := by
    apply List.ext_getElem?
    intro k
    rw [List.getElem?_map]
    by_cases hk : k < L.length
    · obtain ⟨x, hx⟩ := get_of hk
      obtain ⟨v, hv⟩ := get_of (l := s.pd) (k := k) (by rw [hi.lp]; exact hk)
      rw [filesQ_get hx, hv, Option.map_some, hi.bf k v hv]
    · rw [List.getElem?_eq_none (by simp [filesQ]; omega), List.getElem?_eq_none (by rw [hi.lp]; omega)]; rfl
  rw [e, hi.su]
/-- How great the sums become. -/
theorem fold_bd {B : Int} (hB : 0 ≤ B) : ∀ (l : List (Nat × Int)) {Y : List Int} {t : Int}, (∀ q ∈ l, 0 ≤ q.2 ∧ q.2 ≤ B) → (∀ v ∈ Y, 0 ≤ v ∧ v ≤ t) → 0 ≤ t → ∀ v ∈ l.foldl addAt Y, 0 ≤ v ∧ v ≤ t + l.length * B
  | [], Y, t, _, hY, _, v, hv => by have := hY v hv; simp; omega
  | q :: l, Y, t, hl, hY, ht, v, hv => by
    have hq := hl q (by simp)
    have := fold_bd hB l (Y := addAt Y q) (t := t + B) (fun x hx => hl x (by simp [hx])) (fun u hu => by
      rcases List.mem_or_eq_of_mem_set hu with hu | rfl
      · have := hY u hu; omega
      · rw [List.getD_eq_getElem?_getD]
        cases hg : Y[q.1]? with
        | none => simp; omega
        | some z => have := hY z (List.mem_of_getElem? hg); simp; omega) (by omega) v hv
    rw [List.length_cons]
    have e : ((l.length + 1 : Nat) : Int) * B = l.length * B + B := by rw [Int.natCast_add, Int.add_mul]; simp
    rw [e]
    omega
end Go.Proofs.YtmfohnchnbgbaaaGreat

/- One quota, one loss: quota.Right, Loss, Takes, Bears at them. -/
namespace Go.Proofs.YtmfohnchnbgbaaaGreat
open Go.RowKit Go.Lib
set_option linter.unusedSimpArgs false

def trC : Array Value := #[.int .i64 2, .int .i64 1, .int .i64 1, .int .i64 101, .int .i64 5000, .int .i64 0, .int .i64 0, .int .i64 0, .int .i64 255]
def loC : Array Value := #[.int .i64 3, .int .i64 0, .int .i64 8, .int .i64 1, .int .i64 600]
theorem tr_cells {w : World} {g : Nat} {t : TypeId} (h : Blk w g t trC) : w.cell? ⟨g, 0, none⟩ = some (.int .i64 2) ∧ w.cell? ⟨g, 1, none⟩ = some (.int .i64 1) ∧ w.cell? ⟨g, 2, none⟩ = some (.int .i64 1) ∧ w.cell? ⟨g, 3, none⟩ = some (.int .i64 101) ∧ w.cell? ⟨g, 4, none⟩ = some (.int .i64 5000) ∧ w.cell? ⟨g, 5, none⟩ = some (.int .i64 0) ∧ w.cell? ⟨g, 6, none⟩ = some (.int .i64 0) ∧ w.cell? ⟨g, 7, none⟩ = some (.int .i64 0) ∧ w.cell? ⟨g, 8, none⟩ = some (.int .i64 255) :=
  ⟨h.cell 0, h.cell 1, h.cell 2, h.cell 3, h.cell 4, h.cell 5, h.cell 6, h.cell 7, h.cell 8⟩
theorem lo_cells {w : World} {g : Nat} {t : TypeId} (h : Blk w g t loC) : w.cell? ⟨g, 0, none⟩ = some (.int .i64 3) ∧ w.cell? ⟨g, 1, none⟩ = some (.int .i64 0) ∧ w.cell? ⟨g, 2, none⟩ = some (.int .i64 8) ∧ w.cell? ⟨g, 3, none⟩ = some (.int .i64 1) ∧ w.cell? ⟨g, 4, none⟩ = some (.int .i64 600) :=
  ⟨h.cell 0, h.cell 1, h.cell 2, h.cell 3, h.cell 4⟩

set_option maxHeartbeats 1000000 in
theorem has1_any (lo hi x : Int) (g : Nat) (w : World) (hB : Blk w g 3 #[.int .i64 x]) (h : lo ≤ x ∧ x ≤ hi) :
    Calls Tryz.prog 159 #[.agg #[.int .i64 lo, .int .i64 hi], .slice (some ⟨g, 0, none⟩) 1 1] w fun e w' => e = .returned (.bool true) ∧ Below w.heap.size w w' := by
  have hb : Below w.heap.size w (w.alloc (.cells #[.int .i64 lo, .int .i64 hi] 265)) := (Below.refl _ _).alloc (Nat.le_refl _) _
  have H1 := hide hb
  have c0 : w.cell? ⟨g, 0, none⟩ = some (.int .i64 x) := hB.cell 0
  have hlt := hB.lt
  have h1 : ¬ x < lo := by omega
  have h2 : ¬ hi < x := by omega
  clear hB h hb
  go_enter Tryz.func159, Tryz.ntmps159
  go_wp2_with fail
  go_loop [9] (fun q => q = .int .i64 0 ∨ q = .int .i64 1) (fun q => 2 - (RowKit.intOf q).toNat)
  case atStart => exact .inl rfl
  case round =>
    rcases hrel with rfl | rfl
    · go_wp2_with fail
      go_round
      case rel => exact .inr rfl
      case measure => simp [RowKit.intOf]
    · go_wp2_with fail
      go_ret
      exact ⟨rfl, H1.out⟩
set_option maxHeartbeats 1000000 in
theorem has3_any (g : Nat) (w : World) (hB : Blk w g 3 #[.int .i64 0, .int .i64 0, .int .i64 0]) :
    Calls Tryz.prog 159 #[.agg #[.int .i64 0, .int .i64 0], .slice (some ⟨g, 0, none⟩) 3 3] w fun e w' => e = .returned (.bool true) ∧ Below w.heap.size w w' := by
  have hb : Below w.heap.size w (w.alloc (.cells #[.int .i64 0, .int .i64 0] 265)) := (Below.refl _ _).alloc (Nat.le_refl _) _
  have H1 := hide hb
  have c0 : w.cell? ⟨g, 0, none⟩ = some (.int .i64 0) := hB.cell 0
  have c1 : w.cell? ⟨g, 1, none⟩ = some (.int .i64 0) := hB.cell 1
  have c2 : w.cell? ⟨g, 2, none⟩ = some (.int .i64 0) := hB.cell 2
  have hlt := hB.lt
  clear hB hb
  go_enter Tryz.func159, Tryz.ntmps159
  go_wp2_with fail
  go_loop [9] (fun q => q = .int .i64 0 ∨ q = .int .i64 1 ∨ q = .int .i64 2 ∨ q = .int .i64 3) (fun q => 4 - (RowKit.intOf q).toNat)
  case atStart => exact .inl rfl
  case round =>
    rcases hrel with rfl | rfl | rfl | rfl
    · go_wp2_with fail
      go_round
      case rel => exact .inr (.inl rfl)
      case measure => simp [RowKit.intOf]
    · go_wp2_with fail
      go_round
      case rel => exact .inr (.inr (.inl rfl))
      case measure => simp [RowKit.intOf]
    · go_wp2_with fail
      go_round
      case rel => exact .inr (.inr (.inr rfl))
      case measure => simp [RowKit.intOf]
    · go_wp2_with fail
      go_ret
      exact ⟨rfl, H1.out⟩
set_option maxRecDepth 100000 in
set_option maxHeartbeats 4000000 in
theorem rightQ_any (w : World) : Calls Tryz.prog 103 #[.agg #[.int .i64 2, .int .i64 1, .int .i64 1, .int .i64 101, .int .i64 5000, .int .i64 0, .int .i64 0, .int .i64 0, .int .i64 255]] w fun e w' => e = .returned (.bool true) ∧ Below w.heap.size w w' := by
  obtain ⟨w1, hw1⟩ : ∃ W, w.alloc (.cells trC 97) = W := ⟨_, rfl⟩
  have HB := hide (show Blk w1 w.heap.size 97 trC by rw [← hw1]; exact Blk.new _ _ _)
  have H1 := hide (show Below w.heap.size w w1 by rw [← hw1]; exact (Below.refl _ _).alloc (Nat.le_refl _) _)
  have HW := hide hw1
  clear hw1
  go_enter Tryz.func103, Tryz.ntmps103
  go_upto_region 1 with fail
  rw [show w.alloc (.cells #[.int .i64 2, .int .i64 1, .int .i64 1, .int .i64 101, .int .i64 5000, .int .i64 0, .int .i64 0, .int .i64 0, .int .i64 255] 97) = w1 from HW.out]
  obtain ⟨x0, x1, x2, x3, x4, x5, x6, x7, x8⟩ := tr_cells HB.out
  go_wp2_with fail
  refine (has1_any 1 1000000000 2 _ _ (Blk.new _ _ _) (by omega)).mono ?_
  rintro e w2 ⟨rfl, h2⟩
  have h12 := ((Below.refl w1.heap.size w1).alloc (Nat.le_refl _) _).trans (h2.mono (by simp))
  have HB2 := hide (HB.out.below h12 HB.out.lt)
  have H2 := hide (chain H1.out h12)
  clear h2 h12 x0 x1 x2 x3 x4 x5 x6 x7 x8
  obtain ⟨x0, x1, x2, x3, x4, x5, x6, x7, x8⟩ := tr_cells HB2.out
  go_wp2_with fail
  refine (many_any 1 101 w2).mono ?_
  rintro e w3 ⟨rfl, h3⟩
  rw [show manyI 1 101 = 100 by decide]
  have HB3 := hide (HB2.out.below h3 HB2.out.lt)
  have H3 := hide (chain H2.out h3)
  clear h3 x0 x1 x2 x3 x4 x5 x6 x7 x8
  obtain ⟨x0, x1, x2, x3, x4, x5, x6, x7, x8⟩ := tr_cells HB3.out
  go_wp2_with fail
  refine (has1_any 1 255 255 _ _ (Blk.new _ _ _) (by omega)).mono ?_
  rintro e w4 ⟨rfl, h4⟩
  have h34 := ((Below.refl w3.heap.size w3).alloc (Nat.le_refl _) _).trans (h4.mono (by simp))
  have HB4 := hide (HB3.out.below h34 HB3.out.lt)
  have H4 := hide (chain H3.out h34)
  clear h4 h34 x0 x1 x2 x3 x4 x5 x6 x7 x8
  obtain ⟨x0, x1, x2, x3, x4, x5, x6, x7, x8⟩ := tr_cells HB4.out
  go_wp2_with fail
  refine (has1_any 1 10000 5000 _ _ (Blk.new _ _ _) (by omega)).mono ?_
  rintro e w5 ⟨rfl, h5⟩
  have h45 := ((Below.refl w4.heap.size w4).alloc (Nat.le_refl _) _).trans (h5.mono (by simp))
  have HB5 := hide (HB4.out.below h45 HB4.out.lt)
  have H5 := hide (chain H4.out h45)
  clear h5 h45 x0 x1 x2 x3 x4 x5 x6 x7 x8
  obtain ⟨x0, x1, x2, x3, x4, x5, x6, x7, x8⟩ := tr_cells HB5.out
  go_wp2_with fail
  refine (has3_any _ _ (Blk.new _ _ _)).mono ?_
  rintro e w6 ⟨rfl, h6⟩
  have H6 := hide (chain H5.out (((Below.refl w5.heap.size w5).alloc (Nat.le_refl _) _).trans (h6.mono (by simp))))
  clear h6 x0 x1 x2 x3 x4 x5 x6 x7 x8
  go_wp2_with fail
  go_ret
  exact ⟨rfl, H6.out⟩
set_option maxRecDepth 100000 in
set_option maxHeartbeats 4000000 in
theorem lossQ_any (w : World) : Calls Tryz.prog 105 #[.agg #[.int .i64 3, .int .i64 0, .int .i64 8, .int .i64 1, .int .i64 600]] w fun e w' => e = .returned (.bool true) ∧ Below w.heap.size w w' := by
  obtain ⟨w1, hw1⟩ : ∃ W, w.alloc (.cells loC 103) = W := ⟨_, rfl⟩
  have HB := hide (show Blk w1 w.heap.size 103 loC by rw [← hw1]; exact Blk.new _ _ _)
  have H1 := hide (show Below w.heap.size w w1 by rw [← hw1]; exact (Below.refl _ _).alloc (Nat.le_refl _) _)
  have HW := hide hw1
  clear hw1
  go_enter Tryz.func105, Tryz.ntmps105
  go_upto_region 1 with fail
  rw [show w.alloc (.cells #[.int .i64 3, .int .i64 0, .int .i64 8, .int .i64 1, .int .i64 600] 103) = w1 from HW.out]
  obtain ⟨x0, x1, x2, x3, x4⟩ := lo_cells HB.out
  go_wp2_with fail
  refine (has1_any 1 1000000000 3 _ _ (Blk.new _ _ _) (by omega)).mono ?_
  rintro e w2 ⟨rfl, h2⟩
  have h12 := ((Below.refl w1.heap.size w1).alloc (Nat.le_refl _) _).trans (h2.mono (by simp))
  have HB2 := hide (HB.out.below h12 HB.out.lt)
  have H2 := hide (chain H1.out h12)
  clear h2 h12 x0 x1 x2 x3 x4
  obtain ⟨x0, x1, x2, x3, x4⟩ := lo_cells HB2.out
  go_wp2_with fail
  refine (has1_any 0 1000000000 0 _ _ (Blk.new _ _ _) (by omega)).mono ?_
  rintro e w3 ⟨rfl, h3⟩
  have h23 := ((Below.refl w2.heap.size w2).alloc (Nat.le_refl _) _).trans (h3.mono (by simp))
  have HB3 := hide (HB2.out.below h23 HB2.out.lt)
  have H3 := hide (chain H2.out h23)
  clear h3 h23 x0 x1 x2 x3 x4
  obtain ⟨x0, x1, x2, x3, x4⟩ := lo_cells HB3.out
  go_wp2_with fail
  refine (has1_any 1 292194 8 _ _ (Blk.new _ _ _) (by omega)).mono ?_
  rintro e w4 ⟨rfl, h4⟩
  have h34 := ((Below.refl w3.heap.size w3).alloc (Nat.le_refl _) _).trans (h4.mono (by simp))
  have HB4 := hide (HB3.out.below h34 HB3.out.lt)
  have H4 := hide (chain H3.out h34)
  clear h4 h34 x0 x1 x2 x3 x4
  obtain ⟨x0, x1, x2, x3, x4⟩ := lo_cells HB4.out
  go_wp2_with fail
  refine (has1_any 0 7 1 _ _ (Blk.new _ _ _) (by omega)).mono ?_
  rintro e w5 ⟨rfl, h5⟩
  have h45 := ((Below.refl w4.heap.size w4).alloc (Nat.le_refl _) _).trans (h5.mono (by simp))
  have HB5 := hide (HB4.out.below h45 HB4.out.lt)
  have H5 := hide (chain H4.out h45)
  clear h5 h45 x0 x1 x2 x3 x4
  obtain ⟨x0, x1, x2, x3, x4⟩ := lo_cells HB5.out
  go_wp2_with fail
  refine (has1_any 0 1000000000000000 600 _ _ (Blk.new _ _ _) (by omega)).mono ?_
  rintro e w6 ⟨rfl, h6⟩
  have H6 := hide (chain H5.out (((Below.refl w5.heap.size w5).alloc (Nat.le_refl _) _).trans (h6.mono (by simp))))
  clear h6 x0 x1 x2 x3 x4
  go_wp2_with fail
  go_ret
  exact ⟨rfl, H6.out⟩
set_option maxRecDepth 100000 in
set_option maxHeartbeats 4000000 in
theorem takesQ_any (w : World) : Calls Tryz.prog 162 #[.agg #[.int .i64 2, .int .i64 1, .int .i64 1, .int .i64 101, .int .i64 5000, .int .i64 0, .int .i64 0, .int .i64 0, .int .i64 255], .agg #[.int .i64 3, .int .i64 0, .int .i64 8, .int .i64 1, .int .i64 600]] w fun e w' => e = .returned (.bool true) ∧ Below w.heap.size w w' := by
  obtain ⟨w1, hw1⟩ : ∃ W, (w.alloc (.cells trC 97)).alloc (.cells loC 103) = W := ⟨_, rfl⟩
  have HB := hide (show Blk w1 w.heap.size 97 trC by rw [← hw1]; exact (Blk.new _ _ _).alloc _)
  have HL := hide (show Blk w1 (w.heap.size + 1) 103 loC by rw [← hw1]; exact Blk.new' (by simp))
  have H1 := hide (show Below w.heap.size w w1 by rw [← hw1]; exact ((Below.refl _ _).alloc (Nat.le_refl _) _).alloc (by simp) _)
  have HW := hide hw1
  clear hw1
  go_enter Tryz.func162, Tryz.ntmps162
  go_upto_region 1 with fail
  rw [show (w.alloc (.cells #[.int .i64 2, .int .i64 1, .int .i64 1, .int .i64 101, .int .i64 5000, .int .i64 0, .int .i64 0, .int .i64 0, .int .i64 255] 97)).alloc (.cells #[.int .i64 3, .int .i64 0, .int .i64 8, .int .i64 1, .int .i64 600] 103) = w1 from HW.out]
  obtain ⟨x0, x1, x2, x3, x4, x5, x6, x7, x8⟩ := tr_cells HB.out
  go_wp2_with fail
  refine (rightQ_any w1).mono ?_
  rintro e w2 ⟨rfl, h2⟩
  have HB2 := hide (HB.out.below h2 HB.out.lt)
  have HL2 := hide (HL.out.below h2 HL.out.lt)
  have H2 := hide (chain H1.out h2)
  clear h2 x0 x1 x2 x3 x4 x5 x6 x7 x8
  obtain ⟨y0, y1, y2, y3, y4⟩ := lo_cells HL2.out
  go_wp2_with fail
  refine (lossQ_any w2).mono ?_
  rintro e w3 ⟨rfl, h3⟩
  have HB3 := hide (HB2.out.below h3 HB2.out.lt)
  have HL3 := hide (HL2.out.below h3 HL2.out.lt)
  have H3 := hide (chain H2.out h3)
  clear h3 y0 y1 y2 y3 y4
  obtain ⟨x0, x1, x2, x3, x4, x5, x6, x7, x8⟩ := tr_cells HB3.out
  obtain ⟨y0, y1, y2, y3, y4⟩ := lo_cells HL3.out
  go_wp2_with fail
  refine (in_any 1 101 8 w3).mono ?_
  rintro e w4 ⟨rfl, h4⟩
  rw [show inB 1 101 8 = true by decide]
  have HB4 := hide (HB3.out.below h4 HB3.out.lt)
  have HL4 := hide (HL3.out.below h4 HL3.out.lt)
  have H4 := hide (chain H3.out h4)
  clear h4 x0 x1 x2 x3 x4 x5 x6 x7 x8 y0 y1 y2 y3 y4
  obtain ⟨x0, x1, x2, x3, x4, x5, x6, x7, x8⟩ := tr_cells HB4.out
  obtain ⟨y0, y1, y2, y3, y4⟩ := lo_cells HL4.out
  go_wp2_with fail
  go_ret
  exact ⟨rfl, H4.out⟩
set_option maxRecDepth 100000 in
set_option maxHeartbeats 4000000 in
theorem bearsQ_any (w : World) : Calls Tryz.prog 116 #[.agg #[.int .i64 2, .int .i64 1, .int .i64 1, .int .i64 101, .int .i64 5000, .int .i64 0, .int .i64 0, .int .i64 0, .int .i64 255], .agg #[.int .i64 3, .int .i64 0, .int .i64 8, .int .i64 1, .int .i64 600]] w fun e w' => e = .returned (.tuple #[.int .i64 300, .bool true]) ∧ Below w.heap.size w w' := by
  obtain ⟨w1, hw1⟩ : ∃ W, (w.alloc (.cells trC 97)).alloc (.cells loC 103) = W := ⟨_, rfl⟩
  have HB := hide (show Blk w1 w.heap.size 97 trC by rw [← hw1]; exact (Blk.new _ _ _).alloc _)
  have HL := hide (show Blk w1 (w.heap.size + 1) 103 loC by rw [← hw1]; exact Blk.new' (by simp))
  have H1 := hide (show Below w.heap.size w w1 by rw [← hw1]; exact ((Below.refl _ _).alloc (Nat.le_refl _) _).alloc (by simp) _)
  have HW := hide hw1
  clear hw1
  go_enter Tryz.func116, Tryz.ntmps116
  go_upto_region 1 with fail
  rw [show (w.alloc (.cells #[.int .i64 2, .int .i64 1, .int .i64 1, .int .i64 101, .int .i64 5000, .int .i64 0, .int .i64 0, .int .i64 0, .int .i64 255] 97)).alloc (.cells #[.int .i64 3, .int .i64 0, .int .i64 8, .int .i64 1, .int .i64 600] 103) = w1 from HW.out]
  obtain ⟨x0, x1, x2, x3, x4, x5, x6, x7, x8⟩ := tr_cells HB.out
  obtain ⟨y0, y1, y2, y3, y4⟩ := lo_cells HL.out
  go_wp2_with fail
  refine (takesQ_any w1).mono ?_
  rintro e w2 ⟨rfl, h2⟩
  have HB2 := hide (HB.out.below h2 HB.out.lt)
  have HL2 := hide (HL.out.below h2 HL.out.lt)
  have H2 := hide (chain H1.out h2)
  clear h2 x0 x1 x2 x3 x4 x5 x6 x7 x8 y0 y1 y2 y3 y4
  obtain ⟨x0, x1, x2, x3, x4, x5, x6, x7, x8⟩ := tr_cells HB2.out
  obtain ⟨y0, y1, y2, y3, y4⟩ := lo_cells HL2.out
  have HBP := hide (show Calls Tryz.prog 85 #[.int .i64 600, .int .i64 5000] w2 fun e w' => e = .returned (.tuple #[.int .i64 300, .int .i64 0]) ∧ Below w2.heap.size w2 w' by
    have := bp_any 600 5000 (by omega) (by omega) w2
    rw [show evQ 600 5000 10000 = 300 by decide, show evE 600 5000 10000 = 0 by decide] at this
    exact this)
  go_wp2_with fail
  refine HBP.out.mono ?_
  rintro e w3 ⟨rfl, h3⟩
  have H3 := hide (chain H2.out h3)
  clear h3 x0 x1 x2 x3 x4 x5 x6 x7 x8 y0 y1 y2 y3 y4
  go_wp2_with fail
  go_ret2
  exact ⟨rfl, H3.out⟩
end Go.Proofs.YtmfohnchnbgbaaaGreat
