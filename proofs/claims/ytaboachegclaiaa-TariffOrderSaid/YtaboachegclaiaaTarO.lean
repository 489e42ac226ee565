/- Contracts from a base; the program lives. -/
import Derived.Test.YtaboachegclaiaaTarM
namespace Go.Proofs.Ytaboachegclaiaa
open Go.RowKit

def FitL (l : List Ver) : Prop := ∀ y ∈ l, y.age.length ≤ 1000000 ∧ y.zone.length ≤ 1000000 ∧ y.peril.length ≤ 1000000
theorem fit_M {M : List Vw} {l : List Ver} (h : FitL l) (hl : allV M = l) : ∀ x ∈ M, LenV x := fun x hx => by
  subst hl
  exact h x.v (List.mem_map.2 ⟨x, hx, rfl⟩)

/-- A store into a block that holds a slice alone keeps rows that begin with integers. -/
theorem SV.unhit {w : World} {sz n cap X : Nat} {A : Option Addr} {rows : List (List Value)} {t : TypeId} {a : Option Addr} {b c : Nat} {u : Value} (h : SV w sz A n cap rows) (hX : Blk w X t #[.slice a b c]) (hr : ∀ r ∈ rows, ∃ k m, r[0]? = some (.int k m)) : SV (w.setCell ⟨X, 0, none⟩ u) sz A n cap rows := by
  refine ⟨fun i r hi => ?_, h.len, h.le, h.most, h.nil⟩
  obtain ⟨b', off, hA, hb, hc⟩ := h.sl i r hi
  obtain ⟨k, m, h0⟩ := hr r (List.mem_of_getElem? hi)
  have hne : b' ≠ X := by
    rintro rfl
    have h1 := hc 0 _ h0
    rw [hX.cell] at h1
    obtain ⟨hq, he⟩ := Array.getElem?_eq_some_iff.1 h1
    have hq0 : off + (i * sz + 0) = 0 := by simpa using hq
    simp at he
  refine ⟨b', off, hA, by simpa using hb, fun j v hv => ?_⟩
  rw [World.cell?_of_block (w := w) (heap_setCell_other w ⟨X, 0, none⟩ b' u hne)]
  exact hc j v hv
theorem headI (l : List Int) : ∀ r ∈ l.map encI, ∃ k m, r[0]? = some (Value.int k m) := fun r hr => by
  obtain ⟨x, _, rfl⟩ := List.mem_map.1 hr
  exact ⟨_, _, rfl⟩
theorem headBd (l : List Bd) : ∀ r ∈ l.map encBd, ∃ k m, r[0]? = some (Value.int k m) := fun r hr => by
  obtain ⟨x, _, rfl⟩ := List.mem_map.1 hr
  exact ⟨_, _, rfl⟩
theorem headV (l : List Vw) : ∀ r ∈ l.map encV, ∃ k m, r[0]? = some (Value.int k m) := fun r hr => by
  obtain ⟨x, _, rfl⟩ := List.mem_map.1 hr
  exact ⟨_, _, rfl⟩
theorem VOK.unhit {w : World} {X : Nat} {x : Vw} {t : TypeId} {a : Option Addr} {b c : Nat} {u : Value} (h : VOK w x) (hX : Blk w X t #[.slice a b c]) : VOK (w.setCell ⟨X, 0, none⟩ u) x :=
  ⟨h.age.unhit hX (headBd _), h.zone.unhit hX (headI _), h.peril.unhit hX (headI _)⟩
theorem TV.unhit {w : World} {n cap X : Nat} {A : Option Addr} {M : List Vw} {t : TypeId} {a : Option Addr} {b c : Nat} {u : Value} (h : TV w A n cap M) (hX : Blk w X t #[.slice a b c]) : TV (w.setCell ⟨X, 0, none⟩ u) A n cap M :=
  ⟨h.sv.unhit hX (headV _), fun v hv => (h.rows v hv).unhit hX⟩

section
variable {w0 w wa wb : World} {A : Option Addr} {n cap : Nat} {M : List Vw} {l : List Ver}
theorem plain_b (f : Int) (h : Below w0.heap.size w0 w) : Calls Try.prog 19 #[.int .i64 f] w
    fun e w' => ∃ x : Vw, e = .returned (.agg #[.int .i64 x.f, .int .i64 x.b0, .int .i64 x.b1, .int .i64 x.b2, .int .i64 x.b3, .slice x.aA x.age.length x.aC, .slice x.zA x.zone.length x.zC, .slice x.pA x.peril.length x.pC, .int .i64 x.mn]) ∧ x.v = plainV f ∧ VOK w' x ∧ Below w0.heap.size w0 w' ∧ Below w.heap.size w w' :=
  (plain_any f w).mono fun _ _ ⟨x, he, hv, hk, _, hb⟩ => ⟨x, he, hv, hk, chain h hb, hb⟩
/-- What Put leaves, from a base. -/
def PutB (w0 w : World) (c : Int) (n2 : Nat) (l2 : List Ver) (e : Ending) (w' : World) : Prop :=
  ∃ (A' : Option Addr) (cap' : Nat) (M' : List Vw), e = .returned (.tuple #[.agg #[.slice A' n2 cap'], .int .i64 c]) ∧ TV w' A' n2 cap' M' ∧ allV M' = l2 ∧ Below w0.heap.size w0 w' ∧ Below w.heap.size w w'
theorem put_b {x : Vw} {v : Ver} {c : Int} {l2 : List Ver} {n2 : Nat} (hs : TV wa A n cap M) (ha : Below wa.heap.size wa w) (hv : VOK wb x) (hb : Below wb.heap.size wb w) (h : Below w0.heap.size w0 w) (hl : allV M = l) (hx : x.v = v) (hp : putV l v = (c, l2)) (hn : l2.length = n2) :
    Calls Try.prog 17 #[.agg #[.slice A n cap], .agg #[.int .i64 x.f, .int .i64 x.b0, .int .i64 x.b1, .int .i64 x.b2, .int .i64 x.b3, .slice x.aA x.age.length x.aC, .slice x.zA x.zone.length x.zC, .slice x.pA x.peril.length x.pC, .int .i64 x.mn]] w (PutB w0 w c n2 l2) := by
  have hM := hs.len
  subst hM
  refine (put_any A cap M x w (hs.below ha) (hv.below hb)).mono ?_
  rintro e w' ⟨A', cap', M', rfl, h1, h2, h3⟩
  rw [hl, hx, hp] at h2 ⊢
  have h4 : M'.length = n2 := by rw [← hn, ← allV_len, h2]
  rw [h4] at h1 ⊢
  exact ⟨A', cap', M', rfl, h1, h2, chain h h3, h3⟩
theorem at_b {v : Ver} {d : Int} (hs : TV wa A n cap M) (ha : Below wa.heap.size wa w) (h : Below w0.heap.size w0 w) (hl : allV M = l) (hf : FitL l) (hr : atL l d = some v) : Calls Try.prog 14 #[.agg #[.slice A n cap], .int .i64 d] w
    fun e w' => ∃ x : Vw, e = .returned (.tuple #[.agg #[.int .i64 x.f, .int .i64 x.b0, .int .i64 x.b1, .int .i64 x.b2, .int .i64 x.b3, .slice x.aA x.age.length x.aC, .slice x.zA x.zone.length x.zC, .slice x.pA x.peril.length x.pC, .int .i64 x.mn], .int .i64 0]) ∧ x.v = v ∧ VOK w' x ∧ Below w0.heap.size w0 w' ∧ Below w.heap.size w w' := by
  have hM := hs.len
  subst hM
  refine (at_any A cap M d w (hs.below ha) (fit_M hf hl)).mono ?_
  rintro e w' ⟨hb, ⟨h1, _⟩ | ⟨v', h1, x, he, hxv, hx⟩⟩
  · rw [hl, hr] at h1; cases h1
  · rw [hl, hr] at h1; cases h1
    exact ⟨x, he, hxv, hx, chain h hb, hb⟩
theorem at_n {d : Int} (hs : TV wa A n cap M) (ha : Below wa.heap.size wa w) (h : Below w0.heap.size w0 w) (hl : allV M = l) (hf : FitL l) (hr : atL l d = none) : Calls Try.prog 14 #[.agg #[.slice A n cap], .int .i64 d] w
    fun e w' => e = .returned (.tuple #[.agg #[.int .i64 0, .int .i64 0, .int .i64 0, .int .i64 0, .int .i64 0, .slice none 0 0, .slice none 0 0, .slice none 0 0, .int .i64 0], .int .i64 7]) ∧ Below w0.heap.size w0 w' ∧ Below w.heap.size w w' := by
  have hM := hs.len
  subst hM
  refine (at_any A cap M d w (hs.below ha) (fit_M hf hl)).mono ?_
  rintro e w' ⟨hb, ⟨_, he⟩ | ⟨v', h1, _⟩⟩
  · exact ⟨he, chain h hb, hb⟩
  · rw [hl, hr] at h1; cases h1
theorem atR_b {v : Ver} {d : Int} (hs : TV wa A n cap M) (ha : Below wa.heap.size wa w) (h : Below w0.heap.size w0 w) (hl : allV M = l) (hr : atL l d = some v) : Calls Try.prog 15 #[.agg #[.slice A n cap], .int .i64 d] w
    fun e w' => ∃ x : Vw, e = .returned (.tuple #[.agg #[.int .i64 x.f, .int .i64 x.b0, .int .i64 x.b1, .int .i64 x.b2, .int .i64 x.b3, .slice x.aA x.age.length x.aC, .slice x.zA x.zone.length x.zC, .slice x.pA x.peril.length x.pC, .int .i64 x.mn], .int .i64 0]) ∧ x.v = v ∧ VOK w' x ∧ Below w0.heap.size w0 w' ∧ Below w.heap.size w w' := by
  have hM := hs.len
  subst hM
  refine (atR_any A cap M d w (hs.below ha)).mono ?_
  rintro e w' ⟨hb, ⟨h1, _⟩ | ⟨v', h1, x, he, hxv, hx⟩⟩
  · rw [hl, hr] at h1; cases h1
  · rw [hl, hr] at h1; cases h1
    exact ⟨x, he, hxv, hx, chain h hb, hb⟩
theorem atR_n {d : Int} (hs : TV wa A n cap M) (ha : Below wa.heap.size wa w) (h : Below w0.heap.size w0 w) (hl : allV M = l) (hr : atL l d = none) : Calls Try.prog 15 #[.agg #[.slice A n cap], .int .i64 d] w
    fun e w' => e = .returned (.tuple #[.agg #[.int .i64 0, .int .i64 0, .int .i64 0, .int .i64 0, .int .i64 0, .slice none 0 0, .slice none 0 0, .slice none 0 0, .int .i64 0], .int .i64 7]) ∧ Below w0.heap.size w0 w' ∧ Below w.heap.size w w' := by
  have hM := hs.len
  subst hM
  refine (atR_any A cap M d w (hs.below ha)).mono ?_
  rintro e w' ⟨hb, ⟨_, he⟩ | ⟨v', h1, _⟩⟩
  · exact ⟨he, chain h hb, hb⟩
  · rw [hl, hr] at h1; cases h1
theorem right_b {r : Bool} (hs : TV wa A n cap M) (ha : Below wa.heap.size wa w) (h : Below w0.heap.size w0 w) (hl : allV M = l) (hr : rightT l = r) : Calls Try.prog 12 #[.agg #[.slice A n cap]] w
    fun e w' => e = .returned (.bool r) ∧ Below w0.heap.size w0 w' ∧ Below w.heap.size w w' := by
  have hM := hs.len
  subst hM
  refine (right_any A cap M w (hs.below ha)).mono ?_
  rintro e w' ⟨rfl, hb⟩
  exact ⟨by rw [hl, hr], chain h hb, hb⟩
theorem version_b {x : Vw} {r : Bool} (hs : VOK wa x) (ha : Below wa.heap.size wa w) (h : Below w0.heap.size w0 w) (hr : versionB x.v = r) : Calls Try.prog 10 #[.agg #[.int .i64 x.f, .int .i64 x.b0, .int .i64 x.b1, .int .i64 x.b2, .int .i64 x.b3, .slice x.aA x.age.length x.aC, .slice x.zA x.zone.length x.zC, .slice x.pA x.peril.length x.pC, .int .i64 x.mn]] w
    fun e w' => e = .returned (.bool r) ∧ Below w0.heap.size w0 w' ∧ Below w.heap.size w w' := by
  refine (version_any x w (hs.below ha)).mono ?_
  rintro e w' ⟨rfl, hb⟩
  exact ⟨by rw [hr], chain h hb, hb⟩
end
theorem vok_zero (w : World) : VOK w zeroW := ⟨sv_nil w 2, sv_nil w 1, sv_nil w 1⟩

/-- A variable that holds a tariff. -/
structure Tst (w : World) (X n : Nat) (l : List Ver) (A : Option Addr) (cap : Nat) (M : List Vw) (wx : World) : Prop where
  x : Blk wx X 29 #[.slice A n cap]
  t : TV wx A n cap M
  v : allV M = l
  b : Below w.heap.size w wx
  nw : w.heap.size ≤ X
theorem Tst.below {w wx wy : World} {X n : Nat} {l : List Ver} {A : Option Addr} {cap : Nat} {M : List Vw} (h : Tst w X n l A cap M wx) (hb : Below wx.heap.size wx wy) : Tst w X n l A cap M wy := ⟨h.x.below hb h.x.lt, h.t.below hb, h.v, chain h.b hb, h.nw⟩
theorem lit_a : putV [] (plainV 20) = (0, [plainV 20]) := by rfl
theorem lit_b : putV [plainV 20] (plainV 10) = (0, [plainV 10, plainV 20]) := by rfl
theorem lit_c : putV [plainV 10, plainV 20] (plainV 20) = (8, []) := by rfl
theorem lit_d : putV [plainV 10, plainV 20] (plainV 0) = (1, []) := by rfl
theorem lit_e : atL [plainV 10, plainV 20] 19 = some (plainV 10) := by rfl
theorem lit_f : atL [plainV 10, plainV 20] 20 = some (plainV 20) := by rfl
theorem lit_g : atL [plainV 10, plainV 20] 9 = none := by rfl
theorem lit_h : rightT [plainV 10, plainV 20] = true := by rfl
theorem lit_i : versionB (plainV 1) = true := by rfl
theorem lit_j : versionB ⟨1, 0, 0, 0, 0, [], [], [], 0⟩ = false := by rfl
theorem fit_lit : FitL [plainV 10, plainV 20] := fun y hy => by
  simp at hy
  rcases hy with rfl | rfl <;> simp [plainV]

set_option maxRecDepth 100000 in
set_option maxHeartbeats 4000000 in
theorem alive_any (w : World) : Calls Try.prog 9 #[] w fun e w' => e = .returned (.bool true) ∧ Below w.heap.size w w' := by
  go_enter Try.func9, Try.ntmps9
  go_wp2_with fail
  refine (plain_b (w0 := w) 20 (Below.refl _ _)).mono ?_
  rintro e w1 ⟨x1, rfl, hv1, hk1, h1, hb1⟩
  clear hb1
  go_wp2_with fail
  refine (put_b (w0 := w) (wa := w1) (wb := w1) (M := []) ⟨sv_nil _ 9, fun v h => by cases h⟩ (Below.refl _ _) hk1 (Below.refl _ _) h1 rfl hv1 lit_a rfl).mono ?_
  rintro e w2 ⟨A2, q2, M2, rfl, ht2, hm2, h2, hb2⟩
  clear hb2 hv1 hk1 h1
  go_wp2_with fail
  obtain ⟨w3, hw3⟩ : ∃ W, w2.alloc (.cells #[.slice A2 1 q2] 29) = W := ⟨_, rfl⟩
  have hT : Tst w w2.heap.size 1 [plainV 20] A2 q2 M2 w3 := by
    rw [← hw3]
    exact ⟨Blk.new _ _ _, ht2.below ((Below.refl _ _).alloc (Nat.le_refl _) _), hm2, h2.alloc h2.size _, h2.size⟩
  rw [hw3]
  have HT := hide hT
  clear hT hw3 ht2 hm2 h2
  obtain ⟨X, hX⟩ : ∃ X, w2.heap.size = X := ⟨_, rfl⟩
  rw [hX] at HT ⊢
  clear hX
  go_cut [3] from 20 to 25 (fun t wx => t = .int .i64 0 ∧ ∃ A q M, Tst w X 2 [plainV 10, plainV 20] A q M wx)
  case first =>
    have t0 := HT.out.x.cell 0
    have tf := HT.out.x.frozen 0
    simp at t0
    have hcur : Below w3.heap.size w3 w3 := Below.refl _ _
    go_region_law (first
      | (go_simp
         go_at_call 19
         with_reducible refine (plain_b (w0 := w3) 10 ?_).mono ?_
         · exact hcur.drew
         rintro e w4 ⟨x4, rfl, hv4, hk4, hcur, hb4⟩
         have hT4 := HT.out.below hcur
         have t0 := hT4.x.cell 0
         have tf := hT4.x.frozen 0
         simp at t0
         dsimp only)
      | (go_simp
         go_at_call 17
         with_reducible refine (put_b (w0 := w3) (x := x4) HT.out.t ?_ hk4 ?_ ?_ HT.out.v hv4 lit_b rfl).mono ?_
         · exact hcur
         · exact Below.refl _ _
         · exact hcur
         rintro e w5 ⟨A5, q5, M5, rfl, ht5, hm5, hcur, hb5⟩
         have hT5 := HT.out.below hcur
         have t0 := hT5.x.cell 0
         have tf := hT5.x.frozen 0
         simp at t0
         dsimp only))
    all_goals
      go_wp2_with fail
      go_meet
      exact ⟨rfl, A5, q5, M5, hT5.x.set_ 0 _, ht5.unhit hT5.x, hm5, hT5.b.setCell (p := ⟨X, 0, none⟩) hT5.nw _, hT5.nw⟩
  case rest =>
    obtain ⟨rfl, A2, q2, M2, hT⟩ := hcut
    have HT := hide hT
    clear hT
    go_wp2_with fail
    go_cut [4, 5] from 26 to 31 (fun p t wx => (∃ Y, p = .pointer (some ⟨Y, 0, none⟩)) ∧ t = .int .i64 8 ∧ Tst w X 2 [plainV 10, plainV 20] A2 q2 M2 wx)
    case first =>
      have t0 := HT.out.x.cell 0
      simp at t0
      have hcur : Below wc.heap.size wc wc := Below.refl _ _
      have hxl := HT.out.x.lt
      go_region_law (first
        | (go_simp
           go_at_call 19
           with_reducible refine (plain_b (w0 := wc) 20 ?_).mono ?_
           · repeat (first | with_reducible exact hcur | refine Below.drew ?_ | refine Below.alloc ?_ (by have := hcur.size; simp; try omega) _)
           rintro e w4 ⟨x4, rfl, hv4, hk4, hcur, hb4⟩
           first
             | (have hy : Blk w4 wc.heap.size 29 #[.slice none 0 0] := Blk.below (Blk.new wc.drew 29 #[.slice none 0 0]) hb4 (by simp)
                have y0 := hy.cell 0
                have yf := hy.frozen 0
                simp at y0)
             | skip
           have hT4 := HT.out.below hcur
           have t0 := hT4.x.cell 0
           have htl4 := hT4.x.lt
           simp at t0
           dsimp only)
        | (go_simp
           go_at_call 17
           with_reducible refine (put_b (w0 := wc) (x := x4) HT.out.t ?_ hk4 ?_ ?_ HT.out.v hv4 lit_c rfl).mono ?_
           · repeat (first | with_reducible exact hcur | refine Below.drew ?_ | refine Below.alloc ?_ (by have := hcur.size; simp; try omega) _)
           · repeat (first | with_reducible exact Below.refl _ _ | refine Below.drew ?_ | refine Below.alloc ?_ (by simp) _)
           · repeat (first | with_reducible exact hcur | refine Below.drew ?_ | refine Below.alloc ?_ (by have := hcur.size; simp; try omega) _)
           rintro e w5 ⟨A5, q5, M5, rfl, ht5, hm5, hcur, hb5⟩
           have hsc := hcur.size
           first
             | (have hyo := hy.lt
                have hy := Blk.below hy hb5 hyo
                have y0 := hy.cell 0
                have yf := hy.frozen 0
                simp at y0)
             | (have hy : Blk w5 w4.heap.size 29 #[.slice none 0 0] := Blk.below (Blk.new _ 29 #[.slice none 0 0]) hb5 (by simp)
                have y0 := hy.cell 0
                have yf := hy.frozen 0
                simp at y0)
             | skip
           have hT5 := HT.out.below hcur
           have t0 := hT5.x.cell 0
           have htl5 := hT5.x.lt
           simp at t0
           dsimp only))
      all_goals
        have hs4 := hb4.size
        try simp at hs4
        go_wp2_with fail
        go_meet
        first
          | exact ⟨⟨_, rfl⟩, rfl, HT.out.below (hcur.setCell (p := ⟨wc.heap.size, 0, none⟩) (Nat.le_refl _) _)⟩
          | exact ⟨⟨_, rfl⟩, rfl, HT.out.below (hcur.setCell (p := ⟨w4.heap.size, 0, none⟩) (by simp only; omega) _)⟩
          | exact ⟨⟨_, rfl⟩, rfl, HT.out.below (hcur.alloc (by omega) _)⟩
    case rest =>
      obtain ⟨⟨Y, rfl⟩, rfl, hT⟩ := hcut
      have HT := hide hT
      clear hT
      go_wp2_with fail
      go_cut [6, 7] from 32 to 37 (fun p t wx => (∃ Y, p = .pointer (some ⟨Y, 0, none⟩)) ∧ t = .int .i64 1 ∧ Tst w X 2 [plainV 10, plainV 20] A2 q2 M2 wx)
      case first =>
        have t0 := HT.out.x.cell 0
        simp at t0
        have hcur : Below wc.heap.size wc wc := Below.refl _ _
        have hxl := HT.out.x.lt
        go_region_law (first
          | (go_simp
             go_at_call 19
             with_reducible refine (plain_b (w0 := wc) 0 ?_).mono ?_
             · repeat (first | with_reducible exact hcur | refine Below.drew ?_ | refine Below.alloc ?_ (by have := hcur.size; simp; try omega) _)
             rintro e w4 ⟨x4, rfl, hv4, hk4, hcur, hb4⟩
             first
               | (have hy : Blk w4 wc.heap.size 29 #[.slice none 0 0] := Blk.below (Blk.new wc.drew 29 #[.slice none 0 0]) hb4 (by simp)
                  have y0 := hy.cell 0
                  have yf := hy.frozen 0
                  simp at y0)
               | skip
             have hT4 := HT.out.below hcur
             have t0 := hT4.x.cell 0
             have htl4 := hT4.x.lt
             simp at t0
             dsimp only)
          | (go_simp
             go_at_call 17
             with_reducible refine (put_b (w0 := wc) (x := x4) HT.out.t ?_ hk4 ?_ ?_ HT.out.v hv4 lit_d rfl).mono ?_
             · repeat (first | with_reducible exact hcur | refine Below.drew ?_ | refine Below.alloc ?_ (by have := hcur.size; simp; try omega) _)
             · repeat (first | with_reducible exact Below.refl _ _ | refine Below.drew ?_ | refine Below.alloc ?_ (by simp) _)
             · repeat (first | with_reducible exact hcur | refine Below.drew ?_ | refine Below.alloc ?_ (by have := hcur.size; simp; try omega) _)
             rintro e w5 ⟨A5, q5, M5, rfl, ht5, hm5, hcur, hb5⟩
             have hsc := hcur.size
             first
               | (have hyo := hy.lt
                  have hy := Blk.below hy hb5 hyo
                  have y0 := hy.cell 0
                  have yf := hy.frozen 0
                  simp at y0)
               | (have hy : Blk w5 w4.heap.size 29 #[.slice none 0 0] := Blk.below (Blk.new _ 29 #[.slice none 0 0]) hb5 (by simp)
                  have y0 := hy.cell 0
                  have yf := hy.frozen 0
                  simp at y0)
               | skip
             have hT5 := HT.out.below hcur
             have t0 := hT5.x.cell 0
             have htl5 := hT5.x.lt
             simp at t0
             dsimp only))
        all_goals
          have hs4 := hb4.size
          try simp at hs4
          go_wp2_with fail
          go_meet
          first
            | exact ⟨⟨_, rfl⟩, rfl, HT.out.below (hcur.setCell (p := ⟨wc.heap.size, 0, none⟩) (Nat.le_refl _) _)⟩
            | exact ⟨⟨_, rfl⟩, rfl, HT.out.below (hcur.setCell (p := ⟨w4.heap.size, 0, none⟩) (by simp only; omega) _)⟩
            | exact ⟨⟨_, rfl⟩, rfl, HT.out.below (hcur.alloc (by omega) _)⟩
      case rest =>
        obtain ⟨⟨Y2, rfl⟩, rfl, hT⟩ := hcut
        have HT := hide hT
        clear hT
        have hxl := HT.out.x.lt
        have t0 := HT.out.x.cell 0
        simp at t0
        go_wp2_with fail
        refine (at_b (w0 := wc) HT.out.t (Below.refl _ _) (Below.refl _ _) HT.out.v fit_lit lit_e).mono ?_
        rintro e w6 ⟨xa, rfl, hva, _, h6, hb6⟩
        have FA := hide (show xa.f = 10 from congrArg Ver.f hva)
        have hT6 := HT.out.below h6
        clear hb6 hva t0 hxl h6
        have t0 := hT6.x.cell 0
        have hxl := hT6.x.lt
        simp at t0
        have HT6 := hide hT6
        clear hT6
        go_wp2_with fail
        obtain ⟨w7, hw7⟩ : ∃ W, w6.alloc (.cells #[.int .i64 xa.f, .int .i64 xa.b0, .int .i64 xa.b1, .int .i64 xa.b2, .int .i64 xa.b3, .slice xa.aA xa.age.length xa.aC, .slice xa.zA xa.zone.length xa.zC, .slice xa.pA xa.peril.length xa.pC, .int .i64 xa.mn] 26) = W := ⟨_, rfl⟩
        have hA : Blk w7 w6.heap.size 26 (boxV xa) := by rw [← hw7]; exact Blk.new _ _ _
        have HT7 := hide (HT6.out.below (show Below w6.heap.size w6 w7 by rw [← hw7]; exact (Below.refl _ _).alloc (Nat.le_refl _) _))
        have HA := hide hA
        rw [hw7]
        obtain ⟨G, hG⟩ : ∃ G, w6.heap.size = G := ⟨_, rfl⟩
        rw [hG] at HA ⊢
        clear hw7 hA hG t0 hxl HT6
        refine (at_b (w0 := w7) HT7.out.t (Below.refl _ _) (Below.refl _ _) HT7.out.v fit_lit lit_f).mono ?_
        rintro e w8 ⟨xb, rfl, hvb, _, h8, hb8⟩
        have FB := hide (show xb.f = 20 from congrArg Ver.f hvb)
        have HT8 := hide (HT7.out.below h8)
        have HA8 := hide (HA.out.below h8 HA.out.lt)
        clear hb8 hvb h8 HT7 HA
        have t0 := HT8.out.x.cell 0
        have hxl := HT8.out.x.lt
        simp at t0
        go_wp2_with fail
        obtain ⟨w9, hw9⟩ : ∃ W, w8.alloc (.cells #[.int .i64 xb.f, .int .i64 xb.b0, .int .i64 xb.b1, .int .i64 xb.b2, .int .i64 xb.b3, .slice xb.aA xb.age.length xb.aC, .slice xb.zA xb.zone.length xb.zC, .slice xb.pA xb.peril.length xb.pC, .int .i64 xb.mn] 26) = W := ⟨_, rfl⟩
        have h89 : Below w8.heap.size w8 w9 := by rw [← hw9]; exact (Below.refl _ _).alloc (Nat.le_refl _) _
        have hB : Blk w9 w8.heap.size 26 (boxV xb) := by rw [← hw9]; exact Blk.new _ _ _
        have HT9 := hide (HT8.out.below h89)
        have HA9 := hide (HA8.out.below h89 HA8.out.lt)
        have HB := hide hB
        rw [hw9]
        obtain ⟨G2, hG⟩ : ∃ G, w8.heap.size = G := ⟨_, rfl⟩
        rw [hG] at HB ⊢
        clear hw9 hB hG t0 hxl HT8 HA8 h89
        refine (at_n (w0 := w9) HT9.out.t (Below.refl _ _) (Below.refl _ _) HT9.out.v fit_lit lit_g).mono ?_
        rintro e w10 ⟨rfl, h10, _⟩
        have hT10 := HT9.out.below h10
        have hA10 := HA9.out.below h10 HA9.out.lt
        have hB10 := HB.out.below h10 HB.out.lt
        have t0 := hT10.x.cell 0
        have hxl := hT10.x.lt
        have a0 : w10.cell? ⟨G, 0, none⟩ = some (.int .i64 10) := by rw [hA10.cell, ← FA.out]; try rfl
        have b0 : w10.cell? ⟨G2, 0, none⟩ = some (.int .i64 20) := by rw [hB10.cell, ← FB.out]; try rfl
        have hal := hA10.lt
        have hbl := hB10.lt
        simp at t0
        have HT10 := hide hT10
        clear h10 HT9 HA9 HB hA10 hB10 hT10
        go_wp2_with fail
        refine (right_b (w0 := w10) HT10.out.t ((Below.refl _ _).alloc (Nat.le_refl _) _) ((Below.refl _ _).alloc (Nat.le_refl _) _) HT10.out.v lit_h).mono ?_
        rintro e w11 ⟨rfl, h11, _⟩
        have hT11 := HT10.out.below h11
        clear t0 hxl a0 b0 hal hbl
        have t0 := hT11.x.cell 0
        have hxl := hT11.x.lt
        simp at t0
        have HT11 := hide hT11
        clear h11 HT10 hT11
        go_wp2_with fail
        refine (plain_b (w0 := w11) 1 (Below.refl _ _)).mono ?_
        rintro e w12 ⟨xp, rfl, hvp, hkp, h12, _⟩
        have HT12 := hide (HT11.out.below h12)
        clear h12 HT11 t0 hxl
        go_wp2_with fail
        refine (version_b (w0 := w12) hkp (Below.refl _ _) (Below.refl _ _) ((congrArg versionB hvp).trans lit_i)).mono ?_
        rintro e w13 ⟨rfl, h13, _⟩
        have HT13 := hide (HT12.out.below h13)
        clear h13 HT12 hkp hvp
        go_wp2_with fail
        refine (version_b (x := ⟨1, 0, 0, 0, 0, none, [], 0, none, [], 0, none, [], 0, 0⟩) (w0 := w13) (wa := w13) ⟨sv_nil w13 2, sv_nil w13 1, sv_nil w13 1⟩ (Below.refl _ _) (Below.refl _ _) lit_j).mono ?_
        rintro e w14 ⟨rfl, h14, _⟩
        have HT14 := hide (HT13.out.below h14)
        clear h14 HT13
        go_wp2_with fail
        go_ret
        exact ⟨rfl, HT14.out.b⟩
end Go.Proofs.Ytaboachegclaiaa
