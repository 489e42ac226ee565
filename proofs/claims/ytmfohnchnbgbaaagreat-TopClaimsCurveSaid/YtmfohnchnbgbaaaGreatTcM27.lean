/- Part 27 of the proof. -/
import Derived.Deep.RegionLaw
import Derived.Test.YtmfohnchnbgbaaaGreatTcM04
import Derived.Test.YtmfohnchnbgbaaaGreatTcM24
import Derived.Test.YtmfohnchnbgbaaaGreatTcM25
import Derived.Test.YtmfohnchnbgbaaaGreatTcM26
/- A file as it was known on a day: the program's walk, and the document's. -/
namespace Go.Proofs.YtmfohnchnbgbaaaGreat
open Go.RowKit

theorem SV.allocF {w : World} {sz n cap : Nat} {A : Option Addr} {rows : List (List Value)} (h : SV w sz A n cap rows) (o : Obj) : SV (w.alloc o) sz A n cap rows := h.below ((Below.refl _ _).alloc (Nat.le_refl _) _)
/-- What a made file is. -/
def MadeP (w : World) (c : Cl) (l : List Ac) (e : Ending) (w' : World) : Prop :=
  ∃ A' c', e = .returned (.agg #[.int .i64 c.id, .int .i64 c.pol, .int .i64 c.per, .int .i64 c.loss, .int .i64 c.bkd, .int .i64 c.ev, .slice A' l.length c']) ∧ OwnS w' w.heap.size 95 3 A' l.length c' (l.map encAc) ∧ Below w.heap.size w w'

set_option maxRecDepth 100000 in
set_option maxHeartbeats 4000000 in
theorem atF_any {c : Cl} {A : Option Addr} {n cap : Nat} {l : List Ac} {d : Int} {w : World} (hs : SV w 3 A n cap (l.map encAc)) (hm : n ≤ 2000) :
    Calls Tryz.prog 70 #[.agg #[.int .i64 c.id, .int .i64 c.pol, .int .i64 c.per, .int .i64 c.loss, .int .i64 c.bkd, .int .i64 c.ev, .slice A n cap], .int .i64 d] w (MadeP w c (atL_Claim d l)) := by
  have hn : l.length = n := by have := hs.len; simpa using this
  subst hn
  have HS := hide hs
  clear hs
  go_enter Tryz.func70, Tryz.ntmps70
  go_wp2_with fail
  refine (clone_any A l.length cap l _ (((HS.out.allocF _).allocF _).allocF _) (by omega)).mono ?_
  rintro e w1 ⟨A1, c1, rfl, ho1, hb1⟩
  have hf := Blk.below (((Blk.new w 49 (boxC c A l.length cap)).alloc (.cells #[.int .i64 d] 3)).alloc (.cells zeroF 49)) hb1 (by simp; omega)
  have hd := Blk.below ((Blk.new (w.alloc (.cells (boxC c A l.length cap) 49)) 3 #[.int .i64 d]).alloc (.cells zeroF 49)) hb1 (by simp)
  have hz := Blk.below (Blk.new ((w.alloc (.cells (boxC c A l.length cap) 49)).alloc (.cells #[.int .i64 d] 3)) 49 zeroF) hb1 (by simp)
  have hbw := chain ((((Below.refl w.heap.size w).alloc (Nat.le_refl _) (.cells (boxC c A l.length cap) 49)).alloc (by simp) (.cells #[.int .i64 d] 3)).alloc (by simp; omega) (.cells zeroF 49)) hb1
  simp at hd hz ho1
  have hq := hd.cell 0
  simp at hq
  have hsz := hz.lt
  clear hb1
  go_wp2_with fail
  refine (del_any A1 c1 (w.heap.size + 1 + 1 + 1) l d (w.heap.size + 1) _ ho1 (by omega) (by omega) (by omega) hq).mono ?_
  rintro e w2 ⟨A2, c2, rfl, ho2, hb2⟩
  have hf2 := hf.below hb2 (by omega)
  have hz2 := hz.below hb2 (by omega)
  have hbw2 := hbw.trans (hb2.mono (by omega))
  clear hf hd hz hbw hb2 ho1 hq
  have y0 := hf2.cell 0
  have y1 := hf2.cell 1
  have y2 := hf2.cell 2
  have y3 := hf2.cell 3
  have y4 := hf2.cell 4
  have y5 := hf2.cell 5
  have y6 := hf2.cell 6
  have s6 := hf2.frozen 6
  have z0 := hz2.cell 0
  have z1 := hz2.cell 1
  have z2 := hz2.cell 2
  have z3 := hz2.cell 3
  have z4 := hz2.cell 4
  have z5 := hz2.cell 5
  have z6 := hz2.cell 6
  have t0 := hz2.frozen 0
  have t1 := hz2.frozen 1
  have t2 := hz2.frozen 2
  have t3 := hz2.frozen 3
  have t4 := hz2.frozen 4
  have t5 := hz2.frozen 5
  have t6 := hz2.frozen 6
  simp [boxC, zeroF] at y0 y1 y2 y3 y4 y5 y6 z0 z1 z2 z3 z4 z5 z6
  have hzl := hz2.lt
  have HZ := hide hz2
  have HO := hide ho2
  have HB := hide hbw2
  clear hf2 hz2 hbw2 ho2
  go_wp2_with fail
  refine ret_row (p := 4) (ty := 49) (g := w.heap.size + 1 + 1) (t := 49) rfl rfl rfl (set7 (HZ.out.far (p := ⟨w.heap.size, 6, none⟩) (by simp; omega) _) _ _ _ _ _ _ _) Tryz.underlying49 rfl (by kernel_rfl)
    ⟨A2, c2, rfl, ?_, bel7 (HB.out.setCell (p := ⟨w.heap.size, 6, none⟩) (by simp) _) (by omega) _ _ _ _ _ _ _⟩
  exact (own_far7 (HO.out.far (p := ⟨w.heap.size, 6, none⟩) (fun j hj => by have := (HO.out.lt j hj).1; simp; omega) _) (by omega) _ _ _ _ _ _ _).mono (by omega)
end Go.Proofs.YtmfohnchnbgbaaaGreat

/- reserve.Known; reserve.sum, as far as what was paid goes. -/
namespace Go.Proofs.YtmfohnchnbgbaaaGreat
open Go.RowKit Go.Lib
set_option linter.unusedSimpArgs false

theorem elFl7 : ElT Tryz.prog 24 49 7 72 := ElT.mk' (z := .agg #[.int .i64 0, .int .i64 0, .int .i64 0, .int .i64 0, .int .i64 0, .int .i64 0, .slice none 0 0]) Tryz.underlying24 (by kernel_rfl) rfl (by omega)
theorem okFl7 (l : List Fl) : RowsOk 7 (l.map encFl) := by
  intro r hr
  obtain ⟨x, _, rfl⟩ := List.mem_map.1 hr
  exact ⟨rfl, fun u hu => by simp [encFl] at hu; rcases hu with rfl | rfl | rfl | rfl | rfl | rfl | rfl <;> rfl⟩
theorem kni_take_yes {d : Int} {L L' : List Fl} {k : Nat} {x : Fl} (h : KnI d (L.take k) L') (hx : L[k]? = some x) (hb : x.c.bkd ≤ d) (A : Option Addr) (cap : Nat) : KnI d (L.take (k + 1)) (L' ++ [⟨x.c, A, atL_Claim d x.l, cap⟩]) := by
  unfold KnI at h ⊢
  rw [List.map_append, h, take_of hx, List.filter_append, List.map_append, List.filter_cons_of_pos (by simpa using hb)]
  rfl
theorem kni_take_no {d : Int} {L L' : List Fl} {k : Nat} {x : Fl} (h : KnI d (L.take k) L') (hx : L[k]? = some x) (hb : ¬ x.c.bkd ≤ d) : KnI d (L.take (k + 1)) L' := by
  unfold KnI at h ⊢
  rw [h, take_of hx, List.filter_append, List.filter_cons_of_neg (by simpa using hb)]
  simp
def KnP (d : Int) (L : List Fl) (w : World) (e : Ending) (w' : World) : Prop :=
  Below w.heap.size w w' ∧ ∃ (A : Option Addr) (cap : Nat) (L' : List Fl), e = .returned (.slice A L'.length cap) ∧ FV w' A L'.length cap L' ∧ KnI d L L'
/-- The loop's state: the files known so far, each with acts of its own. -/
structure KnS (d : Int) (L : List Fl) (B : Nat) (A : Option Addr) (n cap : Nat) (L' : List Fl) (w : World) : Prop where
  kn : KnI d L L'
  ow : OwnS w B 49 7 A n cap (L'.map encFl)
  ac : ∀ x ∈ L', OwnS w B 95 3 x.A x.l.length x.cap (x.l.map encAc)
  ne : ∀ x ∈ L', ∀ b, blk x.A = some b → blk A ≠ some b
theorem KnS.below {d : Int} {L L' : List Fl} {B n cap : Nat} {A : Option Addr} {w w' : World} (h : KnS d L B A n cap L' w) (hb : Below w.heap.size w w') : KnS d L B A n cap L' w' :=
  ⟨h.kn, h.ow.below hb, fun x hx => (h.ac x hx).below hb, h.ne⟩
/-- One file more. -/
theorem KnS.add {d : Int} {L L1 L' : List Fl} {B n cap cap7 : Nat} {A A7 : Option Addr} {w0 w wa : World} {x : Fl} {A2 : Option Addr} {c2 : Nat} (h : KnS d L B A n cap L' w) (hkn : KnI d L1 (L' ++ [⟨x.c, A2, atL_Claim d x.l, c2⟩]))
    (h2 : OwnS w w0.heap.size 95 3 A2 (atL_Claim d x.l).length c2 ((atL_Claim d x.l).map encAc)) (hB : B ≤ w0.heap.size) (h0 : ∀ b, blk A = some b → b < w0.heap.size)
    (ho : OwnS wa B 49 7 A7 (n + 1) cap7 (L'.map encFl ++ [encFl ⟨x.c, A2, atL_Claim d x.l, c2⟩])) (hg : w.grownBy wa (blk A)) (ha : blk A7 = blk A ∨ blk A7 = some w.heap.size) :
    KnS d L1 B A7 (n + 1) cap7 (L' ++ [⟨x.c, A2, atL_Claim d x.l, c2⟩]) wa := by
  have key : ∀ y ∈ L' ++ [(⟨x.c, A2, atL_Claim d x.l, c2⟩ : Fl)], OwnS w B 95 3 y.A y.l.length y.cap (y.l.map encAc) ∧ ∀ b, blk y.A = some b → blk A ≠ some b := fun y hy => by
    rcases List.mem_append.1 hy with hy | hy
    · exact ⟨h.ac y hy, h.ne y hy⟩
    · rw [List.mem_singleton] at hy
      subst hy
      refine ⟨h2.mono hB, fun b hb e => ?_⟩
      have h5 := h0 b e
      have h6 := (h2.lt b hb).1
      omega
  refine ⟨hkn, ?_, fun y hy => ?_, fun y hy b hb e => ?_⟩
  · rw [List.map_append]; exact ho
  · obtain ⟨k1, k2⟩ := key y hy
    refine k1.kept hg ?_
    cases hA : blk y.A with
    | none => exact .inl rfl
    | some b => exact .inr (fun e => k2 b hA e.symm)
  · obtain ⟨k1, k2⟩ := key y hy
    rcases ha with ha | ha
    · exact k2 b hb (ha ▸ e)
    · rw [ha] at e
      have := (k1.lt b hb).2
      injection e with e
      omega
set_option maxRecDepth 100000 in
set_option maxHeartbeats 8000000 in
theorem known_any (A : Option Addr) (n cap : Nat) (L : List Fl) (d : Int) (w : World) (hv : FV w A n cap L) (hn1 : n ≤ 1000) (hl : ∀ x ∈ L, x.l.length ≤ 2000) :
    Calls Tryz.prog 36 #[.slice A n cap, .int .i64 d] w (KnP d L w) := by
  have HN := hide hv.len
  have HV := hide hv
  have HL := hide hl
  clear hv hl
  go_enter Tryz.func36, Tryz.ntmps36
  go_wp2_with fail
  go_loopw [5, 10] (fun q5 q10 wr => ∃ (k m : Nat) (A5 : Option Addr) (cap5 : Nat) (L5 : List Fl), k ≤ n ∧ m ≤ k ∧ L5.length = m ∧ q10 = .int .i64 k ∧ q5 = .slice A5 m cap5 ∧ KnS d (L.take k) w.heap.size A5 m cap5 L5 wr ∧ Below w.heap.size w wr) (fun _ q _ => n - (RowKit.intOf q).toNat)
  case atStart => exact ⟨0, 0, none, 0, [], Nat.zero_le _, Nat.le_refl _, rfl, rfl, rfl, ⟨rfl, OwnS.nil_ _ _ _ _, by simp, by simp⟩, Below.refl _ _⟩
  case round =>
    rename World => wo
    obtain ⟨k, m, A5, cap5, L5, hk, hmk, hm, rfl, rfl, hK, hb⟩ := hrel
    have HK := hide hK
    have HBE := hide hb
    have HM := hide hm
    have hsz : w.heap.size ≤ wo.heap.size := hb.size
    by_cases hlt : k < n
    · obtain ⟨x, hx⟩ := get_of (l := L) (k := k) (by rw [HN.out]; exact hlt)
      obtain ⟨bb, off, hA, hbl, c0, c1, c2, c3, c4, c5, c6⟩ := (HV.out.below hb).sv.sl.fl hx
      have hi0 : (0 : Int) ≤ (k : Int) := by omega
      have hi1 : (k : Int) < (n : Int) := by omega
      have HX := hide hx
      have hxl := HL.out x (List.mem_of_getElem? hx)
      obtain ⟨wx, hwx⟩ : ∃ W, wo.alloc (.cells (boxC x.c x.A x.l.length x.cap) 49) = W := ⟨_, rfl⟩
      have hbx : Below wo.heap.size wo wx := by rw [← hwx]; exact (Below.refl _ _).alloc (Nat.le_refl _) _
      have HXB := hide (show Blk wx wo.heap.size 49 (boxC x.c x.A x.l.length x.cap) by rw [← hwx]; exact Blk.new _ _ _)
      have hsx := ((HV.out.below hb).ac x (List.mem_of_getElem? hx)).below hbx
      have HAT := hide (atF_any (c := x.c) (A := x.A) (n := x.l.length) (cap := x.cap) (l := x.l) (d := d) (w := wx) hsx hxl)
      have HKX := hide (HK.out.below hbx)
      have HBX := hide (chain hb hbx)
      have hszx : w.heap.size ≤ wx.heap.size := HBX.out.size
      have HA5 := hide (show ∀ b, blk A5 = some b → b < wx.heap.size from fun b hb' => by have := (HK.out.ow.lt b hb').2; have := hbx.size; omega)
      have HWX := hide hwx
      obtain ⟨y0, y1, y2, y3, y4, y5, y6⟩ := bx_cells HXB.out
      subst hA
      clear hx hb hK hwx hbx hsx hm
      go_upto_region 5 with fail
      rw [show wo.alloc (.cells #[.int .i64 x.c.id, .int .i64 x.c.pol, .int .i64 x.c.per, .int .i64 x.c.loss, .int .i64 x.c.bkd, .int .i64 x.c.ev, .slice x.A x.l.length x.cap] 49) = wx from HWX.out]
      clear c0 c1 c2 c3 c4 c5 c6
      by_cases hd : x.c.bkd ≤ d
      · have HD := hide hd
        go_wp2_with fail
        refine HAT.out.mono ?_
        rintro e w3 ⟨A2, cp2, rfl, ho2, h3⟩
        have HK3 := hide (HKX.out.below h3)
        have HB3 := hide (chain HBX.out h3)
        have HO2 := hide ho2
        have hsz3 : w.heap.size ≤ w3.heap.size := HB3.out.size
        clear h3 ho2 y0 y1 y2 y3 y4 y5 y6
        obtain ⟨p, hp⟩ : ∃ p, (atL_Claim d x.l).length = p := ⟨_, rfl⟩
        rw [hp]
        have HPP := hide hp
        clear hp
        go_wp2_with (at_builtin
                     refine wpList_app rfl (.tmp 19) (.tmp 23) 24 rfl elFl7 (B := w.heap.size) (A2 := some ⟨_, 0, none⟩) (news := [(⟨x.c, A2, atL_Claim d x.l, cp2⟩ : Fl)].map encFl) rfl (HK3.out.ow.alloc _) rfl rfl ?_ (okFl7 [(⟨x.c, A2, atL_Claim d x.l, cp2⟩ : Fl)]) ?_ ?_ ?_ ?_
                     · have := sl_of_blk (sz := 7) (Blk.new w3 49 #[.int .i64 x.c.id, .int .i64 x.c.pol, .int .i64 x.c.per, .int .i64 x.c.loss, .int .i64 x.c.bkd, .int .i64 x.c.ev, .slice A2 p cp2])
                       rw [← HPP.out] at this ⊢
                       exact this
                     · simp only [maxLen]; omega
                     · omega
                     · simp; omega
                     intro A7 cap7 wa ho1 hg1 ha1
                     have HBa := hide ((HB3.out.alloc HB3.out.size _).grown hg1 (by simp; omega) (fun kk hk => (HK3.out.ow.lt kk hk).1))
                     have HKa := hide ((HK3.out.below ((Below.refl _ _).alloc (Nat.le_refl _) _)).add (x := x) (A2 := A2) (c2 := cp2) (w0 := wx) (L1 := L.take (k + 1)) (kni_take_yes HK3.out.kn HX.out HD.out A2 cp2) (HO2.out.alloc _) hszx HA5.out ho1 hg1 ha1)
                     clear hg1 ha1 ho1)
        go_roundw
        case rel => exact ⟨k + 1, m + 1, A7, cap7, _, by omega, by omega, by rw [List.length_append, HM.out]; rfl, by go_num, rfl, HKa.out, HBa.out⟩
        case measure => simp [RowKit.intOf]; omega
      · have hd2 : ¬ (x.c.bkd ≤ d) := hd
        have HKN := hide (show KnS d (L.take (k + 1)) w.heap.size A5 m cap5 L5 wx from ⟨kni_take_no HKX.out.kn HX.out hd, HKX.out.ow, HKX.out.ac, HKX.out.ne⟩)
        go_wp2_with fail
        go_roundw
        case rel => exact ⟨k + 1, m, A5, cap5, L5, by omega, by omega, HM.out, by go_num, rfl, HKN.out, HBX.out⟩
        case measure => simp [RowKit.intOf]; omega
    · obtain rfl : k = n := by omega
      rw [List.take_of_length_le (by rw [HN.out]; exact Nat.le_refl _)] at hK
      have HR := hide (show KnP d L w (.returned (.slice A5 m cap5)) wo from ⟨HBE.out, A5, cap5, L5, by rw [HM.out], by rw [HM.out]; exact ⟨hK.ow.sv, fun x hx => (hK.ac x hx).sv⟩, hK.kn⟩)
      clear hK hb hm
      go_wp2_with fail
      go_ret
      exact HR.out

/-! ### The sum -/
def psC (g s p b r : Int) (o : Bool) : Array Value := #[.int .i64 g, .int .i64 s, .int .i64 p, .int .i64 b, .int .i64 r, .bool o]
theorem ps_cells {w : World} {B : Nat} {t : TypeId} {g s p b r : Int} {o : Bool} (h : Blk w B t (psC g s p b r o)) : w.cell? ⟨B, 0, none⟩ = some (.int .i64 g) ∧ w.cell? ⟨B, 1, none⟩ = some (.int .i64 s) ∧ w.cell? ⟨B, 2, none⟩ = some (.int .i64 p) ∧ w.cell? ⟨B, 3, none⟩ = some (.int .i64 b) ∧ w.cell? ⟨B, 4, none⟩ = some (.int .i64 r) ∧ w.cell? ⟨B, 5, none⟩ = some (.bool o) :=
  ⟨h.cell 0, h.cell 1, h.cell 2, h.cell 3, h.cell 4, h.cell 5⟩
theorem bel6 {D : Nat} {w w' : World} {B : Nat} (h : Below D w w') (hg : D ≤ B) (u0 u1 u2 u3 u4 u5 : Value) :
    Below D w ((((((w'.setCell ⟨B, 0, none⟩ u0).setCell ⟨B, 1, none⟩ u1).setCell ⟨B, 2, none⟩ u2).setCell ⟨B, 3, none⟩ u3).setCell ⟨B, 4, none⟩ u4).setCell ⟨B, 5, none⟩ u5) :=
  (((((h.setCell hg _).setCell hg _).setCell hg _).setCell hg _).setCell hg _).setCell hg _
theorem psum_take {P : List Ps} {k : Nat} {y : Ps} (h : P[k]? = some y) : ((P.take (k + 1)).map (fun y => y.p)).sum = ((P.take k).map (fun y => y.p)).sum + y.p := by
  rw [take_of h, List.map_append, List.sum_append]; simp
theorem psum_bd {P : List Ps} (h : ∀ y ∈ P, 0 ≤ y.p ∧ y.p ≤ 1000000000000000) (k : Nat) : 0 ≤ ((P.take k).map (fun y => y.p)).sum ∧ ((P.take k).map (fun y => y.p)).sum ≤ k * 1000000000000000 := by
  induction k with
  | zero => simp
  | succ k ih =>
    by_cases hk : k < P.length
    · obtain ⟨y, hy⟩ := get_of hk
      have := h y (List.mem_of_getElem? hy)
      rw [psum_take hy]; omega
    · rw [List.take_of_length_le (by omega)] at ih ⊢
      omega
theorem pos_paid {L : List Fl} {P : List Ps} {K : Nat} {s : PS} (h : OfI L P (fun k => byF k s.out)) (hi : PInv L.length K s) : (P.map (fun y => y.p)).sum = s.all := by
  have e : P.map (fun y => y.p) = s.pd := by
    apply List.ext_getElem?
    intro k
    rw [List.getElem?_map]
    by_cases hk : k < L.length
    · obtain ⟨y, hy⟩ := get_of (l := P) (k := k) (by rw [h.len]; exact hk)
      obtain ⟨v, hv⟩ := get_of (l := s.pd) (k := k) (by rw [hi.lp]; exact hk)
      rw [hy, hv, Option.map_some, h.pd k y hy, hi.bf k v hv]
    · rw [List.getElem?_eq_none (by rw [h.len]; omega), List.getElem?_eq_none (by rw [hi.lp]; omega)]; rfl
  rw [e, hi.su]
end Go.Proofs.YtmfohnchnbgbaaaGreat

/- reserve.sum, reserve.At, as far as what was paid goes. -/
namespace Go.Proofs.YtmfohnchnbgbaaaGreat
open Go.RowKit Go.Lib
set_option linter.unusedSimpArgs false

/-- What is paid in all; nothing where it is not told. -/
noncomputable def allQ (c : Cv) (L : List Fl) : Int := if checkQ c L = 0 then (paidS c L).all else 0
def SumF (c : Cv) (L : List Fl) (w : World) (e : Ending) (w' : World) : Prop :=
  Below w.heap.size w w' ∧ ∃ (g s b r : Int) (o : Bool), e = .returned (.tuple #[.agg #[.int .i64 g, .int .i64 s, .int .i64 (allQ c L), .int .i64 b, .int .i64 r, .bool o], .int .i64 (checkQ c L)])
/-- The sum so far, in its box; all else from B on. -/
structure SuP (w : World) (R PB : Nat) (g s p b r : Int) (o : Bool) (wr : World) : Prop where
  bx : Blk wr PB 42 (psC g s p b r o)
  z : Blk wr R 42 (psC 0 0 0 0 0 false)
  be : Below w.heap.size w wr
  ne : R ≠ PB
  ge : w.heap.size ≤ PB
section
variable {w wr wx : World} {R PB : Nat} {g s p b r : Int} {o : Bool}
theorem SuP.below (h : SuP w R PB g s p b r o wr) (hb : Below wr.heap.size wr wx) : SuP w R PB g s p b r o wx := ⟨h.bx.below hb h.bx.lt, h.z.below hb h.z.lt, chain h.be hb, h.ne, h.ge⟩
theorem SuP.set0 (h : SuP w R PB g s p b r o wr) (u : Int) : SuP w R PB u s p b r o (wr.setCell ⟨PB, 0, none⟩ (.int .i64 u)) := ⟨h.bx.set_ 0 _, h.z.far (p := ⟨PB, 0, none⟩) h.ne _, h.be.setCell (p := ⟨PB, 0, none⟩) h.ge _, h.ne, h.ge⟩
theorem SuP.set1 (h : SuP w R PB g s p b r o wr) (u : Int) : SuP w R PB g u p b r o (wr.setCell ⟨PB, 1, none⟩ (.int .i64 u)) := ⟨h.bx.set_ 1 _, h.z.far (p := ⟨PB, 1, none⟩) h.ne _, h.be.setCell (p := ⟨PB, 1, none⟩) h.ge _, h.ne, h.ge⟩
theorem SuP.set2 (h : SuP w R PB g s p b r o wr) (u : Int) : SuP w R PB g s u b r o (wr.setCell ⟨PB, 2, none⟩ (.int .i64 u)) := ⟨h.bx.set_ 2 _, h.z.far (p := ⟨PB, 2, none⟩) h.ne _, h.be.setCell (p := ⟨PB, 2, none⟩) h.ge _, h.ne, h.ge⟩
theorem SuP.set3 (h : SuP w R PB g s p b r o wr) (u : Int) : SuP w R PB g s p u r o (wr.setCell ⟨PB, 3, none⟩ (.int .i64 u)) := ⟨h.bx.set_ 3 _, h.z.far (p := ⟨PB, 3, none⟩) h.ne _, h.be.setCell (p := ⟨PB, 3, none⟩) h.ge _, h.ne, h.ge⟩
theorem SuP.set4 (h : SuP w R PB g s p b r o wr) (u : Int) : SuP w R PB g s p b u o (wr.setCell ⟨PB, 4, none⟩ (.int .i64 u)) := ⟨h.bx.set_ 4 _, h.z.far (p := ⟨PB, 4, none⟩) h.ne _, h.be.setCell (p := ⟨PB, 4, none⟩) h.ge _, h.ne, h.ge⟩
theorem SuP.set5 (h : SuP w R PB g s p b r o wr) (u : Bool) : SuP w R PB g s p b r u (wr.setCell ⟨PB, 5, none⟩ (.bool u)) := ⟨h.bx.set_ 5 _, h.z.far (p := ⟨PB, 5, none⟩) h.ne _, h.be.setCell (p := ⟨PB, 5, none⟩) h.ge _, h.ne, h.ge⟩
end
set_option maxRecDepth 100000 in
set_option maxHeartbeats 16000000 in
theorem sumF_any (c : Cv) (A : Option Addr) (n cap : Nat) (L : List Fl) (w : World) (ho : okCv c) (hv : FV w A n cap L) (hn1 : n ≤ 1000) :
    Calls Tryz.prog 35 #[.agg #[.int .i64 c.p, .int .i64 c.lim, .int .i64 c.agg, .int .i64 c.ded, .int .i64 c.sh], .slice A n cap] w (SumF c L w) := by
  obtain ⟨w1, hw1⟩ : ∃ W, (w.alloc (.cells (cvC c) 23)).alloc (.cells (psC 0 0 0 0 0 false) 42) = W := ⟨_, rfl⟩
  have h01 : Below w.heap.size w w1 := by rw [← hw1]; exact ((Below.refl _ _).alloc (Nat.le_refl _) _).alloc (by simp) _
  have HB := hide (show Blk w1 w.heap.size 23 (cvC c) by rw [← hw1]; exact (Blk.new _ _ _).alloc _)
  have HZ := hide (show Blk w1 (w.heap.size + 1) 42 (psC 0 0 0 0 0 false) by rw [← hw1]; exact Blk.new' (by simp))
  have HOF := hide (ofF_any c A n cap L w1 ho (hv.below h01) hn1)
  have H1 := hide h01
  have HW := hide hw1
  have HN := hide hv.len
  clear hw1 h01 hv ho
  go_enter Tryz.func35, Tryz.ntmps35
  go_upto_region 1 with fail
  rw [show (w.alloc (.cells #[.int .i64 c.p, .int .i64 c.lim, .int .i64 c.agg, .int .i64 c.ded, .int .i64 c.sh] 23)).alloc (.cells #[.int .i64 0, .int .i64 0, .int .i64 0, .int .i64 0, .int .i64 0, .bool false] 42) = w1 from HW.out]
  obtain ⟨x0, x1, x2, x3, x4⟩ := cv_cells HB.out
  go_wp2_with fail
  refine HOF.out.mono ?_
  rintro e w2 ⟨h2, hr⟩
  obtain ⟨E, AP, m, capP, P, rfl, hE, hsp, hsum, hpb, hm1⟩ : ∃ (E : Int) (AP : Option Addr) (m capP : Nat) (P : List Ps), e = .returned (.tuple #[.slice AP m capP, .int .i64 E]) ∧ checkQ c L = E ∧ SV w2 6 AP m capP (P.map encPs) ∧ (P.map (fun y => y.p)).sum = allQ c L ∧ (∀ y ∈ P, 0 ≤ y.p ∧ y.p ≤ 1000000000000000) ∧ m ≤ 1000 := by
    rcases hr with ⟨hne, rfl⟩ | ⟨h0, AP, capP, P, rfl, hsp, hofi, -⟩
    · exact ⟨_, none, 0, 0, [], rfl, rfl, (OwnS.nil_ w2 0 0 6).sv, by rw [allQ, if_neg hne]; rfl, by simp, by omega⟩
    · have hin := paid_inv (check_zero h0).1
      refine ⟨0, AP, L.length, capP, P, rfl, h0, hsp, by rw [allQ, if_pos h0]; exact pos_paid hofi hin, fun y hy => ?_, by rw [HN.out]; exact hn1⟩
      obtain ⟨k, hk⟩ := List.mem_iff_getElem?.1 hy
      have h1 := hofi.pd k y hk
      have h2 := byF_le (l := (paidS c L).out) (fun r hr => (hin.ro r hr).2) k
      have h3 := hin.tot
      have h4 := hin.al
      rw [← h1] at h2
      omega
  have HE := hide hE
  have HS := hide hsp
  have HM := hide (show P.length = m by have := hsp.len; simpa using this)
  have HP := hide hpb
  have HQ := hide (psum_bd hpb)
  have HSUM := hide hsum
  have HZ2 := hide (HZ.out.below h2 HZ.out.lt)
  have H2 := hide (chain H1.out h2)
  have hlt2 : w.heap.size + 1 < w2.heap.size := HZ2.out.lt
  have hle := hsp.le
  clear h2 hr hE hsp hsum hpb x0 x1 x2 x3 x4 HOF
  obtain ⟨w3, hw3⟩ : ∃ W, w2.alloc (.cells (psC 0 0 0 0 0 false) 42) = W := ⟨_, rfl⟩
  obtain ⟨PB, hPB⟩ : ∃ X, w2.heap.size = X := ⟨_, rfl⟩
  have h3 : Below w2.heap.size w2 w3 := by rw [← hw3]; exact (Below.refl _ _).alloc (Nat.le_refl _) _
  have HI3 := hide (show SuP w2 (w.heap.size + 1) PB 0 0 0 0 0 false w3 from ⟨by rw [← hw3, ← hPB]; exact Blk.new _ _ _, HZ2.out.below h3 HZ2.out.lt, h3, by omega, by omega⟩)
  have HW3 := hide hw3
  have HPB := hide hPB
  clear hw3 h3
  go_upto_region 3 with fail
  rw [show w2.alloc (.cells #[.int .i64 0, .int .i64 0, .int .i64 0, .int .i64 0, .int .i64 0, .bool false] 42) = w3 from HW3.out]
  clear hPB
  go_wp2_with fail
  go_loopw [19] (fun q wr => ∃ (k : Nat) (g s p b r : Int) (o : Bool), k ≤ m ∧ q = .int .i64 k ∧ ((P.take k).map (fun y => y.p)).sum = p ∧ SuP w2 (w.heap.size + 1) PB g s p b r o wr) (fun q _ => m - (RowKit.intOf q).toNat)
  case atStart => exact ⟨0, 0, 0, 0, 0, 0, false, Nat.zero_le _, rfl, rfl, HI3.out⟩
  case round =>
    rename World => wo
    obtain ⟨k, g, s, p, b, r, o, hk, rfl, hp, hI⟩ := hrel
    have HI := hide hI
    have hpb := HQ.out k
    rw [hp] at hpb
    by_cases hlt : k < m
    · obtain ⟨y, hy⟩ := get_of (l := P) (k := k) (by rw [HM.out]; exact hlt)
      obtain ⟨yb, yo, hA, hbl, e0, e1, e2, e3, e4, e5⟩ := HS.out.sl.ps hy
      have hyp := HP.out y (List.mem_of_getElem? hy)
      have HT := hide (show ((P.take (k + 1)).map (fun y => y.p)).sum = p + y.p by rw [psum_take hy, hp])
      have hk0 : (0 : Int) ≤ (k : Int) := by omega
      have hk1 : (k : Int) < (m : Int) := by omega
      have hpw : 0 ≤ p + y.p ∧ p + y.p ≤ 2000000000000000000 := by omega
      have e0 := kept hI.be e0
      have e1 := kept hI.be e1
      have e2 := kept hI.be e2
      have e3 := kept hI.be e3
      have e4 := kept hI.be e4
      have e5 := kept hI.be e5
      obtain ⟨wx, hwx⟩ : ∃ W, wo.alloc (.cells (psC y.g y.s y.p y.b y.r y.o) 42) = W := ⟨_, rfl⟩
      have hbx : Below wo.heap.size wo wx := by rw [← hwx]; exact (Below.refl _ _).alloc (Nat.le_refl _) _
      obtain ⟨XB, hXB⟩ : ∃ X, wo.heap.size = X := ⟨_, rfl⟩
      have HX := hide (show Blk wx XB 42 (psC y.g y.s y.p y.b y.r y.o) by rw [← hwx, ← hXB]; exact Blk.new _ _ _)
      have HIx := hide (hI.below hbx)
      have hPX : PB < XB := by rw [← hXB]; exact hI.bx.lt
      have HWX := hide hwx
      subst hA
      clear hy hp hI hpb hyp hwx hbx
      go_upto_region 6 with fail
      rw [show wo.alloc (.cells #[.int .i64 y.g, .int .i64 y.s, .int .i64 y.p, .int .i64 y.b, .int .i64 y.r, .bool y.o] 42) = wx from HWX.out]
      clear hXB e0 e1 e2 e3 e4 e5
      obtain ⟨o', ho'⟩ : ∃ o, y.o = o := ⟨_, rfl⟩
      rw [ho'] at HX
      clear ho'
      obtain ⟨e0, e1, e2, e3, e4, e5⟩ := ps_cells HX.out
      obtain ⟨x0, x1, x2, x3, x4, x5⟩ := ps_cells HIx.out.bx
      have z0 := HIx.out.bx.frozen 0
      clear e1 e2 e3 e4 e5 x1 x2 x3 x4 x5
      go_cut [28] from 23 to 28 (fun _ W => ∃ u : Int, W = wx.setCell ⟨PB, 0, none⟩ (.int .i64 u))
      case first =>
        go_wp2_with fail
        go_meet
        exact ⟨_, rfl⟩
      case rest =>
      obtain ⟨u0, hcut⟩ := hcut
      subst hcut
      have HI0 := hide (HIx.out.set0 u0)
      have HX0 := hide (HX.out.far (p := ⟨PB, 0, none⟩) (by simp; omega) (.int .i64 u0))
      obtain ⟨v0, hW0⟩ : ∃ W, wx.setCell ⟨PB, 0, none⟩ (.int .i64 u0) = W := ⟨_, rfl⟩
      rw [hW0] at HI0 HX0 ⊢
      clear hW0 e0 x0 z0
      go_upto_region 7 with fail
      obtain ⟨e0, e1, e2, e3, e4, e5⟩ := ps_cells HX0.out
      obtain ⟨x0, x1, x2, x3, x4, x5⟩ := ps_cells HI0.out.bx
      have z1 := HI0.out.bx.frozen 1
      clear e0 e2 e3 e4 e5 x0 x2 x3 x4 x5
      go_cut [34] from 29 to 34 (fun _ W => ∃ u : Int, W = v0.setCell ⟨PB, 1, none⟩ (.int .i64 u))
      case first =>
        go_wp2_with fail
        go_meet
        exact ⟨_, rfl⟩
      case rest =>
      obtain ⟨u1, hcut⟩ := hcut
      subst hcut
      have HI1 := hide (HI0.out.set1 u1)
      have HX1 := hide (HX0.out.far (p := ⟨PB, 1, none⟩) (by simp; omega) (.int .i64 u1))
      obtain ⟨v1, hW1⟩ : ∃ W, v0.setCell ⟨PB, 1, none⟩ (.int .i64 u1) = W := ⟨_, rfl⟩
      rw [hW1] at HI1 HX1 ⊢
      clear hW1 e1 x1 z1
      go_upto_region 8 with fail
      obtain ⟨e0, e1, e2, e3, e4, e5⟩ := ps_cells HX1.out
      obtain ⟨x0, x1, x2, x3, x4, x5⟩ := ps_cells HI1.out.bx
      have z2 := HI1.out.bx.frozen 2
      clear e0 e1 e3 e4 e5 x0 x1 x3 x4 x5
      have hwv : IntKind.i64.wrap (p + y.p) = p + y.p := IntWalk.i64_in _ (by omega)
      have hww : wrap64 (p + y.p) = p + y.p := IntWalk.wrap64_in _ (by omega)
      go_cut [40] from 35 to 40 (fun _ W => W = v1.setCell ⟨PB, 2, none⟩ (.int .i64 (p + y.p)))
      case first =>
        go_wp2_with fail
        go_meet
        exact rfl
      case rest =>
      subst hcut
      have HI2 := hide (HI1.out.set2 (p + y.p))
      have HX2 := hide (HX1.out.far (p := ⟨PB, 2, none⟩) (by simp; omega) (.int .i64 (p + y.p)))
      obtain ⟨v2, hW2⟩ : ∃ W, v1.setCell ⟨PB, 2, none⟩ (.int .i64 (p + y.p)) = W := ⟨_, rfl⟩
      rw [hW2] at HI2 HX2 ⊢
      clear hW2 e2 x2 z2 hwv hww
      go_upto_region 9 with fail
      obtain ⟨e0, e1, e2, e3, e4, e5⟩ := ps_cells HX2.out
      obtain ⟨x0, x1, x2, x3, x4, x5⟩ := ps_cells HI2.out.bx
      have z3 := HI2.out.bx.frozen 3
      clear e0 e1 e2 e4 e5 x0 x1 x2 x4 x5
      go_cut [46] from 41 to 46 (fun _ W => ∃ u : Int, W = v2.setCell ⟨PB, 3, none⟩ (.int .i64 u))
      case first =>
        go_wp2_with fail
        go_meet
        exact ⟨_, rfl⟩
      case rest =>
      obtain ⟨u3, hcut⟩ := hcut
      subst hcut
      have HI3 := hide (HI2.out.set3 u3)
      have HX3 := hide (HX2.out.far (p := ⟨PB, 3, none⟩) (by simp; omega) (.int .i64 u3))
      obtain ⟨v3, hW3⟩ : ∃ W, v2.setCell ⟨PB, 3, none⟩ (.int .i64 u3) = W := ⟨_, rfl⟩
      rw [hW3] at HI3 HX3 ⊢
      clear hW3 e3 x3 z3
      go_upto_region 10 with fail
      obtain ⟨e0, e1, e2, e3, e4, e5⟩ := ps_cells HX3.out
      obtain ⟨x0, x1, x2, x3, x4, x5⟩ := ps_cells HI3.out.bx
      have z4 := HI3.out.bx.frozen 4
      clear e0 e1 e2 e3 e5 x0 x1 x2 x3 x5
      go_cut [52] from 47 to 52 (fun _ W => ∃ u : Int, W = v3.setCell ⟨PB, 4, none⟩ (.int .i64 u))
      case first =>
        go_wp2_with fail
        go_meet
        exact ⟨_, rfl⟩
      case rest =>
      obtain ⟨u4, hcut⟩ := hcut
      subst hcut
      have HI4 := hide (HI3.out.set4 u4)
      have HX4 := hide (HX3.out.far (p := ⟨PB, 4, none⟩) (by simp; omega) (.int .i64 u4))
      obtain ⟨v4, hW4⟩ : ∃ W, v3.setCell ⟨PB, 4, none⟩ (.int .i64 u4) = W := ⟨_, rfl⟩
      rw [hW4] at HI4 HX4 ⊢
      clear hW4 e4 x4 z4
      go_upto_region 11 with fail
      obtain ⟨e0, e1, e2, e3, e4, e5⟩ := ps_cells HX4.out
      obtain ⟨x0, x1, x2, x3, x4, x5⟩ := ps_cells HI4.out.bx
      have z5 := HI4.out.bx.frozen 5
      clear e0 e1 e2 e3 e4 x0 x1 x2 x3 x4
      cases o <;> cases o'
      all_goals
        go_wp2_with fail
        go_roundw
        case rel => exact ⟨k + 1, u0, u1, p + y.p, u3, u4, _, by omega, by go_num, HT.out, HI4.out.set5 _⟩
        case measure => simp [RowKit.intOf]; omega
    · obtain rfl : k = m := by omega
      rw [List.take_of_length_le (by rw [HM.out]; exact Nat.le_refl _), HSUM.out] at hp
      subst hp
      obtain ⟨x0, x1, x2, x3, x4, x5⟩ := ps_cells hI.bx
      obtain ⟨y0, y1, y2, y3, y4, y5⟩ := ps_cells hI.z
      have z0 := hI.z.frozen 0
      have z1 := hI.z.frozen 1
      have z2 := hI.z.frozen 2
      have z3 := hI.z.frozen 3
      have z4 := hI.z.frozen 4
      have z5 := hI.z.frozen 5
      have hRP : ¬ PB = w.heap.size + 1 := fun e => hI.ne e.symm
      clear hI hpb
      go_wp2_with fail
      refine ret_row2 (p := 4) (ty := 42) (g := w.heap.size + 1) (t := 42) rfl rfl rfl rfl (set6 HI.out.z _ _ _ _ _ _) Tryz.underlying42 rfl (by kernel_rfl) ⟨bel6 (chain H2.out HI.out.be) (by omega) _ _ _ _ _ _, g, s, b, r, o, by rw [HE.out]; rfl⟩
end Go.Proofs.YtmfohnchnbgbaaaGreat
