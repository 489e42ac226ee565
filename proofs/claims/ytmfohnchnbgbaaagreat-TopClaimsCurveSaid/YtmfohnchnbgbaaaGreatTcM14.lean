/- Part 14 of the proof. -/
import Derived.Test.YtmfohnchnbgbaaaGreatTcM12
import Derived.Test.YtmfohnchnbgbaaaGreatTcM13
/- Files that may be: adjust.Right, adjust.check. -/
namespace Go.Proofs.YtmfohnchnbgbaaaGreat
open Go.RowKit Go.Lib
set_option linter.unusedSimpArgs false

/-- A file that may not be. -/
def badF (c : Cv) (x : Fl) : Bool := !formedB x.c || (decide (x.c.per ≠ c.p) || !madeB x.c.bkd x.l)
set_option maxRecDepth 100000 in
set_option maxHeartbeats 2000000 in
theorem bad_any (c : Cv) (x : Fl) (H : Nat) (w : World) (hB : Blk w H 23 (cvC c)) (hs : SV w 3 x.A x.l.length x.cap (x.l.map encAc)) :
    Calls Tryz.prog 170 #[.agg #[.int .i64 x.c.id, .int .i64 x.c.pol, .int .i64 x.c.per, .int .i64 x.c.loss, .int .i64 x.c.bkd, .int .i64 x.c.ev, .slice x.A x.l.length x.cap], .pointer (some ⟨H, 0, none⟩)] w fun e w' => e = .returned (.bool (badF c x)) ∧ Below w.heap.size w w' := by
  obtain ⟨w1, hw1⟩ : ∃ W, w.alloc (.cells (boxC x.c x.A x.l.length x.cap) 49) = W := ⟨_, rfl⟩
  have h01 : Below w.heap.size w w1 := by rw [← hw1]; exact (Below.refl _ _).alloc (Nat.le_refl _) _
  have HF := hide (show Blk w1 w.heap.size 49 (boxC x.c x.A x.l.length x.cap) by rw [← hw1]; exact Blk.new _ _ _)
  have HC := hide (hB.below h01 hB.lt)
  have HS := hide (hs.below h01)
  have H1 := hide h01
  have HW := hide hw1
  obtain ⟨x0, x1, x2, x3, x4, x5, x6⟩ := bx_cells HF.out
  obtain ⟨f, hf⟩ : ∃ f, formedB x.c = f := ⟨_, rfl⟩
  obtain ⟨m, hm⟩ : ∃ m, madeB x.c.bkd x.l = m := ⟨_, rfl⟩
  have HFO := hide (show Calls Tryz.prog 171 #[.agg #[.int .i64 x.c.id, .int .i64 x.c.pol, .int .i64 x.c.per, .int .i64 x.c.loss, .int .i64 x.c.bkd, .int .i64 x.c.ev]] w1 fun e w' => e = .returned (.bool f) ∧ Below w1.heap.size w1 w' by rw [← hf]; exact formed_any x.c w1)
  have HMA := hide (fun W (hW : Below w1.heap.size w1 W) => (show Calls Tryz.prog 172 #[.agg #[.int .i64 x.c.id, .int .i64 x.c.pol, .int .i64 x.c.per, .int .i64 x.c.loss, .int .i64 x.c.bkd, .int .i64 x.c.ev, .slice x.A x.l.length x.cap]] W fun e w' => e = .returned (.bool m) ∧ Below W.heap.size W w' by rw [← hm]; exact made_any x W (HS.out.below hW)))
  obtain ⟨R, hR⟩ : ∃ R, badF c x = R := ⟨_, rfl⟩
  have HR := hide (show (!f || (decide (x.c.per ≠ c.p) || !m)) = R by rw [← hR, badF, hf, hm])
  rw [hR]
  clear hw1 h01 hB hs hf hm hR
  go_enter Tryz.func170, Tryz.ntmps170
  go_upto_region 1 with fail
  rw [show w.alloc (.cells #[.int .i64 x.c.id, .int .i64 x.c.pol, .int .i64 x.c.per, .int .i64 x.c.loss, .int .i64 x.c.bkd, .int .i64 x.c.ev, .slice x.A x.l.length x.cap] 49) = w1 from HW.out]
  go_wp2_with fail
  refine HFO.out.mono ?_
  rintro e w2 ⟨rfl, h2⟩
  have H12 := hide h2
  have H2 := hide (chain H1.out h2)
  obtain ⟨y0, y1, y2, y3, y4, y5, y6⟩ := bx_cells (HF.out.below h2 HF.out.lt)
  have c0 : w2.cell? ⟨H, 0, none⟩ = some (.int .i64 c.p) := (HC.out.below h2 HC.out.lt).cell 0
  clear h2 x0 x1 x2 x3 x4 x5 x6
  cases f
  · have hR : R = true := by rw [← HR.out]; rfl
    subst hR
    clear y0 y1 y2 y3 y4 y5 y6 c0
    go_wp2_with fail
    go_ret
    exact ⟨rfl, H2.out⟩
  by_cases hp : x.c.per = c.p
  · have hz : (x.c.per != c.p) = false := by simpa using hp
    have hR : R = !m := by rw [← HR.out]; simp [hp]
    subst hR
    clear hp
    go_wp2_with fail
    refine (HMA.out w2 H12.out).mono ?_
    rintro e w3 ⟨rfl, h3⟩
    have H3 := hide (chain H2.out h3)
    clear h3 y0 y1 y2 y3 y4 y5 y6 c0
    go_wp2_with fail
    go_ret
    exact ⟨rfl, H3.out⟩
  · have hz : (x.c.per != c.p) = true := by simpa using hp
    have hR : R = true := by rw [← HR.out]; simp [hp]
    subst hR
    clear hp
    go_wp2_with fail
    go_ret
    exact ⟨rfl, H2.out⟩
theorem any_no {α : Type} {p : α → Bool} {l : List α} {k : Nat} {x : α} (hx : l[k]? = some x) (hp : p x = true) : l.any p = true := by
  rw [List.any_eq_true]
  exact ⟨x, List.mem_of_getElem? hx, hp⟩
theorem any_take {α : Type} {p : α → Bool} {l : List α} {k : Nat} {x : α} (hx : l[k]? = some x) (h : (l.take k).any p = false) (hp : p x = false) : (l.take (k + 1)).any p = false := by
  rw [take_of hx, List.any_append, h]; simp [hp]
def IxP (b : Bool) (w0 : World) (e : Ending) (w' : World) : Prop := (∃ i : Int, e = .returned (.int .i64 i) ∧ decide (0 ≤ i) = b) ∧ Below w0.heap.size w0 w'
set_option maxRecDepth 100000 in
set_option maxHeartbeats 2000000 in
theorem idxF_any (c : Cv) (A : Option Addr) (n cap H : Nat) (L : List Fl) (w : World) (hv : FV w A n cap L) (hB : Blk w H 23 (cvC c)) :
    Calls Tryz.prog 199 #[.slice A n cap, .func (.func 170) #[] #[.pointer (some ⟨H, 0, none⟩)]] w (IxP (L.any (badF c)) w) := by
  have hn := hv.len
  have hle := hv.sv.le
  have hmo := hv.sv.most
  unfold maxLen at hmo
  have HV := hide hv
  have HB := hide hB
  have HN := hide hn
  obtain ⟨R, hR⟩ : ∃ R, L.any (badF c) = R := ⟨_, rfl⟩
  have HR := hide hR
  rw [hR]
  clear hv hB hn hR
  go_enter Tryz.func199, Tryz.ntmps199
  go_wp2_with fail
  go_loopw [8] (fun q wr => ∃ k : Nat, k ≤ n ∧ q = .int .i64 k ∧ Hid ((L.take k).any (badF c) = false) ∧ Below w.heap.size w wr) (fun q _ => n - (RowKit.intOf q).toNat)
  case atStart => exact ⟨0, Nat.zero_le _, rfl, hide (by simp), Below.refl _ _⟩
  case round =>
    obtain ⟨k, hk, rfl, hok, hb⟩ := hrel
    have HBE := hide hb
    by_cases hlt : k < n
    · obtain ⟨x, hx⟩ := get_of (l := L) (k := k) (by rw [HN.out]; exact hlt)
      obtain ⟨bb, off, hA, hbl, c0, c1, c2, c3, c4, c5, c6⟩ := (HV.out.below hb).sv.sl.fl hx
      have HCA := hide (bad_any c x H wr (HB.out.below hb HB.out.lt) ((HV.out.below hb).ac x (List.mem_of_getElem? hx)))
      have hk0 : (0 : Int) ≤ (k : Int) := by omega
      have hk1 : (k : Int) < (n : Int) := by omega
      have HX := hide hx
      obtain ⟨v, hvv⟩ : ∃ v, badF c x = v := ⟨_, rfl⟩
      rw [hvv] at HCA
      have HVV := hide hvv
      subst hA
      clear hx hb hvv
      go_wp2_with fail
      refine HCA.out.mono ?_
      rintro e w2 ⟨rfl, h2⟩
      have H2 := hide (chain HBE.out h2)
      clear h2 c0 c1 c2 c3 c4 c5 c6
      cases v
      · go_wp2_with fail
        go_roundw
        case rel => exact ⟨k + 1, by omega, by go_num, hide (any_take HX.out hok.out HVV.out), H2.out⟩
        case measure => simp [RowKit.intOf]; omega
      · have hR : R = true := by rw [← HR.out]; exact any_no HX.out HVV.out
        subst hR
        go_wp2_with fail
        go_ret
        exact ⟨⟨k, rfl, by simp⟩, H2.out⟩
    · obtain rfl : k = n := by omega
      have hR : R = false := by
        rw [← HR.out]
        have := hok.out
        rwa [List.take_of_length_le (by rw [HN.out]; exact Nat.le_refl _)] at this
      subst hR
      clear hb
      go_wp2_with fail
      go_ret
      exact ⟨⟨-1, rfl, by simp⟩, HBE.out⟩
theorem conF_any (c : Cv) (A : Option Addr) (n cap H : Nat) (L : List Fl) (w : World) (hv : FV w A n cap L) (hB : Blk w H 23 (cvC c)) :
    Calls Tryz.prog 173 #[.slice A n cap, .func (.func 170) #[] #[.pointer (some ⟨H, 0, none⟩)]] w fun e w' => e = .returned (.bool (L.any (badF c))) ∧ Below w.heap.size w w' := by
  have HI := hide (idxF_any c A n cap H L w hv hB)
  clear hv hB
  go_enter Tryz.func173, Tryz.ntmps173
  go_wp2_with fail
  refine HI.out.mono ?_
  rintro e w1 ⟨⟨i, rfl, hi⟩, hb⟩
  have HI2 := hide hi
  have HBB := hide hb
  clear hi hb
  go_wp2_with fail
  go_ret
  exact ⟨ret_bool HI2.out, HBB.out⟩
/-- Which covers and files may be. -/
def rightF (c : Cv) (L : List Fl) : Bool := coverB c && !L.any (badF c)
set_option maxRecDepth 100000 in
set_option maxHeartbeats 2000000 in
theorem rightF_any (c : Cv) (A : Option Addr) (n cap : Nat) (L : List Fl) (w : World) (ho : okCv c) (hv : FV w A n cap L) :
    Calls Tryz.prog 117 #[.agg #[.int .i64 c.p, .int .i64 c.lim, .int .i64 c.agg, .int .i64 c.ded, .int .i64 c.sh], .slice A n cap] w fun e w' => e = .returned (.bool (rightF c L)) ∧ Below w.heap.size w w' := by
  have hmf : ∀ (fn : Fn) (first cap : Array Value) (w : World), (Instr.makeFunc fn first cap).run Tryz.prog w = .ok (.func fn first cap) w := fun _ _ _ _ => rfl
  obtain ⟨w1, hw1⟩ : ∃ W, w.alloc (.cells (cvC c) 23) = W := ⟨_, rfl⟩
  have h01 : Below w.heap.size w w1 := by rw [← hw1]; exact (Below.refl _ _).alloc (Nat.le_refl _) _
  have HB := hide (show Blk w1 w.heap.size 23 (cvC c) by rw [← hw1]; exact Blk.new _ _ _)
  obtain ⟨x0, x1, x2, x3, x4⟩ := cv_cells HB.out
  have HV := hide (hv.below h01)
  have H1 := hide h01
  have HW := hide hw1
  obtain ⟨b, hb⟩ : ∃ b, coverB c = b := ⟨_, rfl⟩
  obtain ⟨m, hm⟩ : ∃ m, L.any (badF c) = m := ⟨_, rfl⟩
  have HR := hide (show Calls Tryz.prog 65 #[.agg #[.int .i64 c.p, .int .i64 c.lim, .int .i64 c.agg, .int .i64 c.ded, .int .i64 c.sh]] w1 fun e w' => e = .returned (.bool b) ∧ Below w1.heap.size w1 w' by rw [← hb]; exact cover_any c ho w1)
  have HCO := hide (fun W (hW : Below w1.heap.size w1 W) => (show Calls Tryz.prog 173 #[.slice A n cap, .func (.func 170) #[] #[.pointer (some ⟨w.heap.size, 0, none⟩)]] W fun e w' => e = .returned (.bool m) ∧ Below W.heap.size W w' by
    rw [← hm]; exact conF_any c A n cap w.heap.size L W (HV.out.below hW) (HB.out.below hW HB.out.lt)))
  have hR : rightF c L = (b && !m) := by rw [rightF, hb, hm]
  rw [hR]
  clear hw1 h01 hb hm hR hv ho
  go_enter Tryz.func117, Tryz.ntmps117
  go_upto_region 1 with fail
  rw [show w.alloc (.cells #[.int .i64 c.p, .int .i64 c.lim, .int .i64 c.agg, .int .i64 c.ded, .int .i64 c.sh] 23) = w1 from HW.out]
  go_wp2_with fail
  refine HR.out.mono ?_
  rintro e w2 ⟨rfl, h2⟩
  have H12 := hide h2
  have H2 := hide (chain H1.out h2)
  clear h2 x0 x1 x2 x3 x4
  cases b
  · go_wp2_with fail
    go_ret
    exact ⟨rfl, H2.out⟩
  · go_wp2_with fail
    refine (HCO.out w2 H12.out).mono ?_
    rintro e w3 ⟨rfl, h3⟩
    have H3 := hide (chain H2.out h3)
    clear h3
    go_wp2_with fail
    go_ret
    exact ⟨by simp, H3.out⟩
/-- How many acts there are. -/
def actsN (L : List Fl) : Nat := (L.map fun x => x.l.length).sum
theorem acts_take {L : List Fl} {k : Nat} {x : Fl} (h : L[k]? = some x) : actsN (L.take (k + 1)) = actsN (L.take k) + x.l.length := by rw [take_of h]; simp [actsN]
def checkQ (c : Cv) (L : List Fl) : Int := if rightF c L = true then (if 2000 < L.length ∨ 2000 < actsN L then 2 else 0) else 1
end Go.Proofs.YtmfohnchnbgbaaaGreat

/- Sorting: lists that are turned in place, and how they lie. -/
namespace Go.Proofs.YtmfohnchnbgbaaaGreat
open Go.RowKit

theorem set_mid {α : Type} (Q : List α) (x z : α) (R : List α) : (Q ++ x :: R).set Q.length z = Q ++ z :: R := by
  rw [List.set_append_right _ _ (Nat.le_refl _), Nat.sub_self, List.set_cons_zero]
theorem get_mid {α : Type} (Q : List α) (x : α) (R : List α) : (Q ++ x :: R)[Q.length]? = some x := by
  rw [List.getElem?_append_right (Nat.le_refl _), Nat.sub_self]; rfl
theorem set_mid' {α : Type} {Q : List α} {x z : α} {R : List α} {i : Nat} (hi : i = Q.length) : (Q ++ x :: R).set i z = Q ++ z :: R := by subst hi; exact set_mid Q x z R
theorem get_mid' {α : Type} {Q : List α} {x : α} {R : List α} {i : Nat} (hi : i = Q.length) : (Q ++ x :: R)[i]? = some x := by subst hi; exact get_mid Q x R
/-- Two elements change places. -/
theorem swap_far {α : Type} {Q1 Q2 Q3 : List α} {x z : α} {i j : Nat} (hi : i = Q1.length) (hj : j = Q1.length + 1 + Q2.length) : ((Q1 ++ x :: (Q2 ++ z :: Q3)).set i z).set j x = Q1 ++ z :: (Q2 ++ x :: Q3) := by
  rw [set_mid' hi]
  have e : Q1 ++ z :: (Q2 ++ z :: Q3) = (Q1 ++ z :: Q2) ++ z :: Q3 := by simp
  rw [e, set_mid' (by rw [hj]; simp; omega)]
  simp
theorem swap_far2 {α : Type} {Q1 Q2 Q3 : List α} {x z : α} {i j : Nat} (hi : i = Q1.length) (hj : j = Q1.length + 1 + Q2.length) : ((Q1 ++ x :: (Q2 ++ z :: Q3)).set j x).set i z = Q1 ++ z :: (Q2 ++ x :: Q3) := by
  have e : Q1 ++ x :: (Q2 ++ z :: Q3) = (Q1 ++ x :: Q2) ++ z :: Q3 := by simp
  rw [e, set_mid' (by rw [hj]; simp; omega)]
  have e2 : (Q1 ++ x :: Q2) ++ x :: Q3 = Q1 ++ x :: (Q2 ++ x :: Q3) := by simp
  rw [e2, set_mid' hi]
/-- Two parts of one length change places, cell by cell. -/
def mixS {α : Type} (P X Y Z R : List α) (k : Nat) : List α := (P ++ Z.take k) ++ (X.drop k ++ (Y ++ (X.take k ++ (Z.drop k ++ R))))
theorem mixS_zero {α : Type} (P X Y Z R : List α) : mixS P X Y Z R 0 = P ++ (X ++ (Y ++ (Z ++ R))) := by simp [mixS]
theorem mixS_end {α : Type} {P X Y Z R : List α} (h : X.length = Z.length) : mixS P X Y Z R X.length = P ++ (Z ++ (Y ++ (X ++ R))) := by
  rw [mixS, List.take_of_length_le (Nat.le_of_eq h.symm), List.drop_eq_nil_of_le (Nat.le_refl _), List.take_of_length_le (Nat.le_refl _), List.drop_eq_nil_of_le (Nat.le_of_eq h.symm)]
  simp
theorem mixS_at {α : Type} {P X Y Z R : List α} {k : Nat} {x z : α} (hx : X[k]? = some x) (hz : Z[k]? = some z) :
    mixS P X Y Z R k = (P ++ Z.take k) ++ x :: ((X.drop (k + 1) ++ (Y ++ X.take k)) ++ z :: (Z.drop (k + 1) ++ R)) ∧
      mixS P X Y Z R (k + 1) = (P ++ Z.take k) ++ z :: ((X.drop (k + 1) ++ (Y ++ X.take k)) ++ x :: (Z.drop (k + 1) ++ R)) := by
  constructor
  · rw [mixS, drop_of hx, drop_of hz]; simp
  · rw [mixS, take_of hx, take_of hz]; simp
theorem perm_mid {α : Type} (A : List α) (x : α) (B : List α) : (A ++ x :: B).Perm (x :: (A ++ B)) := List.perm_middle

section
variable {α : Type} (val : α → Int)
def encZ (x : α) : List Value := [.int .i64 (val x)]
/-- A slice of numbers that is being sorted: what it holds; all else is as it was at w0. -/
structure Srt (w0 : World) (B g n cap : Nat) (l : List α) (w : World) : Prop where
  own : OwnS w B 3 1 (some ⟨g, 0, none⟩) n cap (l.map (encZ val))
  gr : w0.grownBy w (some g)
variable {val} {w0 w w' : World} {B g n cap : Nat} {l : List α}
theorem grown_below {w0 w w' : World} {row : Option Nat} (h : w0.grownBy w row) (hb : Below w.heap.size w w') : w0.grownBy w' row := ⟨hb.os.trans h.os, hb.tape.trans h.tape, hb.output.trans h.output, Nat.le_trans h.size hb.size, fun i hi hne => (hb.block i (Nat.lt_of_lt_of_le hi h.size)).trans (h.block i hi hne)⟩
theorem Srt.below (h : Srt val w0 B g n cap l w) (hb : Below w.heap.size w w') : Srt val w0 B g n cap l w' := ⟨h.own.below hb, grown_below h.gr hb⟩
theorem Srt.drew (h : Srt val w0 B g n cap l w) : Srt val w0 B g n cap l w.drew := h.below (Below.refl _ _).drew
theorem Srt.len (h : Srt val w0 B g n cap l w) : l.length = n := by have := h.own.len; simpa using this
theorem Srt.lt (h : Srt val w0 B g n cap l w) : g < w.heap.size := (h.own.lt g rfl).2
theorem Srt.at (h : Srt val w0 B g n cap l w) {i : Nat} {x : α} (hx : l[i]? = some x) : w.cell? ⟨g, i, none⟩ = some (.int .i64 (val x)) := by
  obtain ⟨b, off, hA, _, hc⟩ := h.own.sl i (encZ val x) (by simp [hx])
  have h1 := hc 0 _ rfl
  cases hA
  simpa using h1
theorem Srt.fz (h : Srt val w0 B g n cap l w) (i : Nat) : w.frozen? ⟨g, i, none⟩ = false := h.own.frozen i
theorem Srt.set_ (h : Srt val w0 B g n cap l w) {i : Nat} {x : α} (hi : i < l.length) : Srt val w0 B g n cap (l.set i x) (w.setCell ⟨g, i, none⟩ (.int .i64 (val x))) := by
  obtain ⟨y, hy⟩ := get_of hi
  refine ⟨?_, ?_⟩
  · have h2 := h.own.set_ (i := i) (j := 0) (row := encZ val y) (by simp [hy]) (by omega) (u := .int .i64 (val x)) rfl
    rw [Nat.mul_one, Nat.add_zero] at h2
    rw [List.map_set]
    exact h2
  · exact ⟨h.gr.os, h.gr.tape, h.gr.output, by simpa using h.gr.size, fun k hk hne => (heap_setCell_other w ⟨g, i, none⟩ k _ (fun e => hne (by rw [e]))).trans (h.gr.block k hk hne)⟩
theorem Srt.swap {Q1 Q2 Q3 : List α} {x z : α} {i j : Nat} (h : Srt val w0 B g n cap (Q1 ++ x :: (Q2 ++ z :: Q3)) w) (hi : i = Q1.length) (hj : j = Q1.length + 1 + Q2.length) :
    Srt val w0 B g n cap (Q1 ++ z :: (Q2 ++ x :: Q3)) ((w.setCell ⟨g, i, none⟩ (.int .i64 (val z))).setCell ⟨g, j, none⟩ (.int .i64 (val x))) := by
  have h2 := (h.set_ (i := i) (x := z) (by simp; omega)).set_ (i := j) (x := x) (by simp; omega)
  rwa [swap_far hi hj] at h2
theorem Srt.swap2 {Q1 Q2 Q3 : List α} {x z : α} {i j : Nat} (h : Srt val w0 B g n cap (Q1 ++ x :: (Q2 ++ z :: Q3)) w) (hi : i = Q1.length) (hj : j = Q1.length + 1 + Q2.length) :
    Srt val w0 B g n cap (Q1 ++ z :: (Q2 ++ x :: Q3)) ((w.setCell ⟨g, j, none⟩ (.int .i64 (val x))).setCell ⟨g, i, none⟩ (.int .i64 (val z))) := by
  have h2 := (h.set_ (i := j) (x := x) (by simp; omega)).set_ (i := i) (x := z) (by simp; omega)
  rwa [swap_far2 hi hj] at h2
end
end Go.Proofs.YtmfohnchnbgbaaaGreat

/- Sorting steps of files: how a slice of them lies. -/
namespace Go.Proofs.YtmfohnchnbgbaaaGreat
open Go.RowKit

/-- A step: the file's place, and the act. -/
structure Stp where
  f : Int
  b : Int
  k : Int
  m : Int
def encT (x : Stp) : List Value := [.int .i64 x.f, .int .i64 x.b, .int .i64 x.k, .int .i64 x.m]
section
variable {α : Type} (val : α → Stp)
def encSt (x : α) : List Value := encT (val x)
/-- A slice of steps that is being sorted: what it holds; all else is as it was at w0. -/
structure SrtS (w0 : World) (B g n cap : Nat) (l : List α) (w : World) : Prop where
  own : OwnS w B 158 4 (some ⟨g, 0, none⟩) n cap (l.map (encSt val))
  gr : w0.grownBy w (some g)
/-- A step in its place. -/
structure At4 (w : World) (g i : Nat) (x : Stp) : Prop where
  a : w.cell? ⟨g, i * 4, none⟩ = some (.int .i64 x.f)
  b : w.cell? ⟨g, i * 4 + 1, none⟩ = some (.int .i64 x.b)
  c : w.cell? ⟨g, i * 4 + 2, none⟩ = some (.int .i64 x.k)
  d : w.cell? ⟨g, i * 4 + 3, none⟩ = some (.int .i64 x.m)
theorem At4.below {w w' : World} {g i : Nat} {x : Stp} (h : At4 w g i x) (hb : Below w.heap.size w w') : At4 w' g i x := ⟨kept hb h.a, kept hb h.b, kept hb h.c, kept hb h.d⟩
variable {val} {w0 w w' : World} {B g n cap : Nat} {l : List α}
theorem SrtS.below (h : SrtS val w0 B g n cap l w) (hb : Below w.heap.size w w') : SrtS val w0 B g n cap l w' := ⟨h.own.below hb, grown_below h.gr hb⟩
theorem SrtS.drew (h : SrtS val w0 B g n cap l w) : SrtS val w0 B g n cap l w.drew := h.below (Below.refl _ _).drew
theorem SrtS.len (h : SrtS val w0 B g n cap l w) : l.length = n := by have := h.own.len; simpa using this
theorem SrtS.lt (h : SrtS val w0 B g n cap l w) : g < w.heap.size := (h.own.lt g rfl).2
theorem SrtS.at (h : SrtS val w0 B g n cap l w) {i : Nat} {x : α} (hx : l[i]? = some x) : At4 w g i (val x) := by
  obtain ⟨b, off, hA, _, hc⟩ := h.own.sl i (encSt val x) (by simp [hx])
  cases hA
  exact ⟨by simpa using hc 0 _ rfl, by simpa using hc 1 _ rfl, by simpa using hc 2 _ rfl, by simpa using hc 3 _ rfl⟩
theorem SrtS.fz (h : SrtS val w0 B g n cap l w) (i : Nat) : w.frozen? ⟨g, i, none⟩ = false := h.own.frozen i
/-- A step stored. -/
def put4 (w : World) (g i : Nat) (x : Stp) : World := (((w.setCell ⟨g, i * 4, none⟩ (.int .i64 x.f)).setCell ⟨g, i * 4 + 1, none⟩ (.int .i64 x.b)).setCell ⟨g, i * 4 + 2, none⟩ (.int .i64 x.k)).setCell ⟨g, i * 4 + 3, none⟩ (.int .i64 x.m)
theorem grown_put {w0 w : World} {g o : Nat} {u : Value} (h : w0.grownBy w (some g)) : w0.grownBy (w.setCell ⟨g, o, none⟩ u) (some g) :=
  ⟨h.os, h.tape, h.output, by simpa using h.size, fun k hk hne => (heap_setCell_other w ⟨g, o, none⟩ k _ (fun e => hne (by rw [e]))).trans (h.block k hk hne)⟩
theorem SrtS.set_ (h : SrtS val w0 B g n cap l w) {i : Nat} {x : α} (hi : i < l.length) : SrtS val w0 B g n cap (l.set i x) (put4 w g i (val x)) := by
  obtain ⟨y, hy⟩ := get_of hi
  refine ⟨?_, grown_put (grown_put (grown_put (grown_put h.gr)))⟩
  have hr : (l.map (encSt val))[i]? = some (encSt val y) := by simp [hy]
  have hl : i < (l.map (encSt val)).length := by simpa using hi
  have h1 := h.own.set_ (i := i) (j := 0) hr (by omega) (u := .int .i64 (val x).f) rfl
  have h2 := h1.set_ (i := i) (j := 1) (row := (encSt val y).set 0 (.int .i64 (val x).f)) (by rw [List.getElem?_set_self hl]) (by omega) (u := .int .i64 (val x).b) rfl
  have h3 := h2.set_ (i := i) (j := 2) (row := ((encSt val y).set 0 (.int .i64 (val x).f)).set 1 (.int .i64 (val x).b)) (by rw [List.getElem?_set_self (by simpa using hl)]) (by omega) (u := .int .i64 (val x).k) rfl
  have h4 := h3.set_ (i := i) (j := 3) (row := (((encSt val y).set 0 (.int .i64 (val x).f)).set 1 (.int .i64 (val x).b)).set 2 (.int .i64 (val x).k)) (by rw [List.getElem?_set_self (by simpa using hl)]) (by omega) (u := .int .i64 (val x).m) rfl
  rw [List.set_set, List.set_set, List.set_set, Nat.add_zero] at h4
  rw [List.map_set]
  exact h4
theorem SrtS.swap {Q1 Q2 Q3 : List α} {x z : α} {i j : Nat} (h : SrtS val w0 B g n cap (Q1 ++ x :: (Q2 ++ z :: Q3)) w) (hi : i = Q1.length) (hj : j = Q1.length + 1 + Q2.length) :
    SrtS val w0 B g n cap (Q1 ++ z :: (Q2 ++ x :: Q3)) (put4 (put4 w g i (val z)) g j (val x)) := by
  have h2 := (h.set_ (i := i) (x := z) (by simp; omega)).set_ (i := j) (x := x) (by simp; omega)
  rwa [swap_far hi hj] at h2
theorem SrtS.swap2 {Q1 Q2 Q3 : List α} {x z : α} {i j : Nat} (h : SrtS val w0 B g n cap (Q1 ++ x :: (Q2 ++ z :: Q3)) w) (hi : i = Q1.length) (hj : j = Q1.length + 1 + Q2.length) :
    SrtS val w0 B g n cap (Q1 ++ z :: (Q2 ++ x :: Q3)) (put4 (put4 w g j (val x)) g i (val z)) := by
  have h2 := (h.set_ (i := j) (x := x) (by simp; omega)).set_ (i := i) (x := z) (by simp; omega)
  rwa [swap_far2 hi hj] at h2
end
end Go.Proofs.YtmfohnchnbgbaaaGreat
