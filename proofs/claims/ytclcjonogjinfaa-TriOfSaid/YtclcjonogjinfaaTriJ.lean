/- An amount put into a triangle: the document's walk where it is not refused. -/
import Derived.Test.YtclcjonogjinfaaTriI
namespace Go.Proofs.Ytclcjonogjinfaa
open Go.RowKit

/-- The rows so far. -/
theorem putR_take {f : Int} {c : List (List Int)} {y dev amt : Int} {k : Nat} {l : List Int} (h : c[k]? = some l) : (putR f c y dev amt).take (k + 1) = (putR f c y dev amt).take k ++ [if k = (y - f).toNat then moreL dev amt l else l] := by
  have hk := lt_of_get h
  have : (putR f c y dev amt)[k]? = some (if k = (y - f).toNat then moreL dev amt l else l) := by
    unfold putR
    rw [List.getElem?_set]
    by_cases e : k = (y - f).toNat
    · subst e
      rw [if_pos rfl, if_pos rfl, if_pos hk, List.getD_eq_getElem?_getD, h]; rfl
    · rw [if_neg (Ne.symm e), if_neg e, h]
  exact take_of this
theorem putR_len (f : Int) (c : List (List Int)) (y dev amt : Int) : (putR f c y dev amt).length = c.length := by simp [putR]

/-- The state, with the argument's box and the result's. -/
structure MatP (w : World) (P : Nat → Prop) (G : Nat) (f : Int) (fA : Option Addr) (n fcap : Nat) (R : List Rw) (A : Option Addr) (cap : Nat) (wx : World) : Prop where
  m : Mat w (G + 1) G f R A cap wx
  b : Blk wx w.heap.size 24 (triC f fA n fcap)
  z : Blk wx (w.heap.size + 1) 24 zeroT
  far : w.heap.size + 1 < G
  ap2 : ∀ r ∈ R, ∀ kk, blk r.A = some kk → kk ≠ w.heap.size + 1 ∧ P kk
section
variable {w wx wy : World} {P : Nat → Prop} {G : Nat} {f : Int} {fA : Option Addr} {n fcap : Nat} {R : List Rw} {A : Option Addr} {cap : Nat}
theorem MatP.below (h : MatP w P G f fA n fcap R A cap wx) (hb : Below wx.heap.size wx wy) : MatP w P G f fA n fcap R A cap wy := ⟨h.m.below hb, h.b.below hb h.b.lt, h.z.below hb h.z.lt, h.far, h.ap2⟩
theorem MatP.step (h : MatP w P G f fA n fcap R A cap wx) {wo : World} (hwo : Below wx.heap.size wx wo) {r : Rw} (hr : SV wo 1 r.A r.l.length r.cap (r.l.map encI)) (hl : 0 < r.l.length) (ha : ∀ kk, blk r.A = some kk → (kk ≠ G ∧ blk A ≠ some kk) ∧ kk ≠ w.heap.size + 1 ∧ P kk) {A2 : Option Addr} {c2 : Nat} {wb : World}
    (ho : OwnS wb (G + 1) 28 1 A2 (R.length + 1) c2 (R.map encRw ++ [r].map encRw)) (hg : wo.grownBy wb (blk A)) (hat : blk A2 = blk A ∨ blk A2 = some wo.heap.size) :
    MatP w P G f fA n fcap (R ++ [r]) A2 c2 (wb.setCell ⟨G, 1, none⟩ (.slice A2 (R.length + 1) c2)) := by
  have h1 := h.below hwo
  have hfar := h.far
  have hne : ∀ i, i ≤ G → some i ≠ blk A := fun i hi he => by have := (h1.m.own.lt i he.symm).1; omega
  exact ⟨h.m.step hwo hr hl (fun kk hk => (ha kk hk).1) ho hg hat, (h1.b.grown hg (hne _ (by omega))).far (by simp; omega) _, (h1.z.grown hg (hne _ (by omega))).far (by simp; omega) _, hfar, fun x hx kk hk => by
    rcases List.mem_append.1 hx with hx | hx
    · exact h.ap2 x hx kk hk
    · simp at hx; subst hx; exact (ha kk hk).2⟩
/-- The answer. -/
theorem MatP.post {c : List (List Int)} {fn : Func} {a : Act} {tr : Tmp} (h : MatP w P G f fA n fcap R A cap wx) (hc : allM R = c) (hr : fn.results = #[.cell 8 24, .tmp tr]) (hd : a.defers = []) (hp : a.tmps.getD 8 undef = .pointer (some ⟨w.heap.size + 1, 0, none⟩)) (hx : a.tmps.getD tr undef = .int .i64 0) :
    bodyPost Try.prog fn (PutT w P f c 0) .ret a ((wx.setCell ⟨w.heap.size + 1, 0, none⟩ (.int .i64 f)).setCell ⟨w.heap.size + 1, 1, none⟩ (.slice A R.length cap)) := by
  have h2 : Blk ((wx.setCell ⟨w.heap.size + 1, 0, none⟩ (.int .i64 f)).setCell ⟨w.heap.size + 1, 1, none⟩ (.slice A R.length cap)) (w.heap.size + 1) 24 (triC f A R.length cap) := by
    have := (h.z.set_ 0 (.int .i64 f)).set_ 1 (.slice A R.length cap)
    simpa [zeroT, triC] using this
  have hfar := h.far
  have hA : ∀ kk, blk A = some kk → kk ≠ w.heap.size + 1 := fun kk hk => by have := (h.m.own.lt kk hk).1; omega
  have hmv : MV ((wx.setCell ⟨w.heap.size + 1, 0, none⟩ (.int .i64 f)).setCell ⟨w.heap.size + 1, 1, none⟩ (.slice A R.length cap)) A R.length cap R := by
    have m0 := h.m.mv
    refine ⟨((m0.sv.far (p := ⟨w.heap.size + 1, 0, none⟩) hA _).far (p := ⟨w.heap.size + 1, 1, none⟩) hA _), fun r hr => ((m0.rows r hr).far (p := ⟨w.heap.size + 1, 0, none⟩) (fun kk hk => (h.ap2 r hr kk hk).1) _).far (p := ⟨w.heap.size + 1, 1, none⟩) (fun kk hk => (h.ap2 r hr kk hk).1) _⟩
  exact ret_row2 hr hd hp hx h2 Try.underlying24 rfl (by kernel_rfl) ⟨(h.m.bel.setCell (p := ⟨w.heap.size + 1, 0, none⟩) (by simp) _).setCell (p := ⟨w.heap.size + 1, 1, none⟩) (by simp) _, .inr ⟨rfl, A, cap, R, rfl, hmv, hc, fun kk hk => by have := (h.m.own.lt kk hk).1; omega, fun r hr kk hk => (h.ap2 r hr kk hk).2⟩⟩
end
/-- A block of a row: new, or one of the triangle's that was given. -/
def SrcP (w : World) (M : List Rw) (kk : Nat) : Prop := w.heap.size ≤ kk ∨ ∃ r ∈ M, blk r.A = some kk

set_option maxRecDepth 100000 in
set_option maxHeartbeats 8000000 in
theorem putT_yes (f : Int) (A : Option Addr) (cap : Nat) (M : List Rw) (y dev amt : Int) (w : World) (hs : MV w A M.length cap M) (hf : ok64 f) (h : putE f (allM M) y dev amt ≠ 1) :
    Calls Try.prog 26 #[.agg #[.int .i64 f, .slice A M.length cap], .int .i64 y, .int .i64 dev, .int .i64 amt] w (PutT w (SrcP w M) f (putR f (allM M) y dev amt) (putE f (allM M) y dev amt)) := by
  have HS := hide hs
  clear hs
  have hh : rightC f (allM M) = true ∧ f ≤ y ∧ y < f + M.length ∧ 0 ≤ amt ∧ amt ≤ 1000000000000000 ∧ 0 ≤ dev ∧ dev < M.length - (y - f) ∧
      putE f (allM M) y dev amt = if capB (moreL dev amt ((allM M).getD (y - f).toNat [])) = false then 5 else 0 := by
    unfold putE at h ⊢
    rw [allM_len] at h ⊢
    by_cases hb : (rightC f (allM M) = false ∨ y < f ∨ f + (M.length : Int) ≤ y ∨ dev < 0 ∨ (M.length : Int) - (y - f) ≤ dev ∨ amt < 0 ∨ 1000000000000000 < amt)
    · rw [if_pos hb] at h; omega
    · rw [if_neg hb]
      simp only [not_or, Bool.not_eq_false] at hb
      refine ⟨hb.1, by omega, by omega, by omega, by omega, by omega, by omega, rfl⟩
  obtain ⟨hr, g1, g2, g3, g4, g5, g6, hE⟩ := hh
  have hbd : 1 ≤ M.length ∧ M.length ≤ 20 ∧ 1601 ≤ f ∧ f ≤ 2401 - M.length := by
    have hr' := hr
    rw [rightC, Bool.and_eq_true, allM_len] at hr'; have := hr'.1; simpa only [boundsB, decide_eq_true_eq] using this
  obtain ⟨b1, b2, b3, b4⟩ := hbd
  have HRR := hide (fun (i : Nat) (l : List Int) (hl : (allM M)[i]? = some l) => right_row hr hl)
  obtain ⟨⟨B, l, bc⟩, hx⟩ := get_of (l := M) (k := (y - f).toNat) (by omega)
  have hE2 : putE f (allM M) y dev amt = if capB (moreL dev amt l) = false then 5 else 0 := by
    rw [hE, List.getD_eq_getElem?_getD, allM_get hx]; rfl
  have HE := hide hE2
  clear h hE hE2
  go_enter Try.func26, Try.ntmps26
  go_wp2_with fail
  refine (rightR_any f A cap M _ (HS.out.below (((Below.refl _ _).alloc (Nat.le_refl _) _).alloc (by simp) _)) hf).mono ?_
  rw [hr]
  rintro e w1 ⟨rfl, hb1⟩
  have hz := Blk.below (Blk.new (w.alloc (.cells (triC f A M.length cap) 24)) 24 zeroT) hb1 (by simp)
  simp at hz
  have k0 := kept hb1 (b := w.heap.size) (o := 0) (u := .int .i64 f) (by simp)
  have k1 := kept hb1 (b := w.heap.size) (o := 1) (u := .slice A M.length cap) (by simp)
  have h1 : Below w.heap.size w w1 := chain (((Below.refl w.heap.size w).alloc (Nat.le_refl _) _).alloc (by simp) _) hb1
  have hzl := hz.lt
  have HB1 := hide hb1
  have hlen := (HRR.out _ _ (allM_get hx)).1
  rw [allM_len] at hlen
  obtain ⟨bb, off, rfl, hbl, hc⟩ := (HS.out.below h1).sv.sl.rw hx
  simp only at hc hlen
  have hq0 : (0 : Int) ≤ y - f := by omega
  have hq1 : y - f < (M.length : Int) := by omega
  have hld : dev < (l.length : Int) := by omega
  have HX := hide hx
  clear hx hlen hb1 hr
  go_wp2_with fail
  obtain ⟨w2, hw2⟩ : ∃ W, w1.alloc (.cells #[.int .i64 f, .slice none 0 0] 24) = W := ⟨_, rfl⟩
  have hP : MatP w (SrcP w M) w1.heap.size f (some ⟨bb, off, none⟩) M.length cap [] none 0 w2 := by
    rw [← hw2]
    have hkb := Blk.below ((Blk.new w 24 (triC f (some ⟨bb, off, none⟩) M.length cap)).alloc (.cells zeroT 24)) HB1.out (by simp; omega)
    exact ⟨⟨Blk.new _ _ _, OwnS.nil_ _ _ _ _, (fun r hr => by simp at hr), (fun r hr => by simp at hr), by omega, h1.size, h1.alloc h1.size _⟩, hkb.alloc _, hz.alloc _, hzl, (fun r hr => by simp at hr)⟩
  rw [hw2]
  obtain ⟨G, hG⟩ : ∃ G, w1.heap.size = G := ⟨_, rfl⟩
  rw [hG] at hP ⊢
  have HP := hide hP
  clear hw2 hP hG h1 k0 k1 hz hc hbl
  go_loopw [11] (fun i wr => ∃ (k : Nat) (R : List Rw) (A' : Option Addr) (cap' : Nat), k ≤ M.length ∧ i = .int .i64 k ∧ R.length = k ∧ allM R = (putR f (allM M) y dev amt).take k ∧ ((y - f).toNat < k → capB (moreL dev amt l) = true) ∧ MatP w (SrcP w M) G f (some ⟨bb, off, none⟩) M.length cap R A' cap' wr) (fun i _ => M.length - (intOf i).toNat)
  case atStart => exact ⟨0, [], none, 0, Nat.zero_le _, rfl, rfl, by simp [allM], fun h => by omega, HP.out⟩
  case round =>
    clear HP
    obtain ⟨k, R, A', cap', hk, rfl, rfl, hRM, hcb, hP⟩ := hrel
    have HCB := hide hcb
    clear hcb
    have c0 := hP.b.cell 0
    have c1 := hP.b.cell 1
    have o1 := hP.m.o.cell 1
    have u1 := hP.m.o.frozen 1
    simp [triC] at c0 c1 o1
    have hGl := hP.m.o.lt
    have hfar := hP.far
    by_cases hlt : R.length < M.length
    · obtain ⟨⟨B2, l2, bc2⟩, hx⟩ := get_of hlt
      have hb := HS.out.below hP.m.bel
      obtain ⟨bb', off', hA, hbl, hc⟩ := hb.sv.sl.rw hx
      cases hA
      have hrow := hb.rows _ (List.mem_of_getElem? hx)
      have hok := HRR.out _ _ (allM_get hx)
      rw [allM_len] at hok
      simp only at hc hrow hok
      have hk0 : (0 : Int) ≤ (R.length : Int) := by omega
      have hk1 : (R.length : Int) < (M.length : Int) := by omega
      have HT := hide (putR_take (f := f) (y := y) (dev := dev) (amt := amt) (allM_get hx))
      have HP := hide hP
      have HR := hide hrow
      have HRM := hide hRM
      have hR20 : R.length ≤ 20 := by omega
      have hpos : 0 < l2.length := by omega
      by_cases hq : R.length = (y - f).toNat
      · have hqi : ((R.length : Int) != y - f) = false := by simp; omega
        have hll : l2 = l := by
          have h9 := HX.out
          rw [← hq, hx] at h9; cases h9; rfl
        subst hll
        have HQ := hide hq
        clear hq
        have hl20 : l2.length ≤ 1000 := by omega
        cases hcap : capB (moreL dev amt l2)
        · have HE5 := hide (show putE f (allM M) y dev amt = 5 by rw [HE.out, hcap]; rfl)
          have hmo := more_no B2 bc2 l2 dev amt wr HR.out hok.2 hl20 ⟨g3, g4⟩ hcap
          clear hx hb hrow hP hRM hok hcap
          go_wp2_with fail
          refine hmo.mono ?_
          rintro e w3 ⟨rfl, hb3⟩
          have HP3 := hide (HP.out.below hb3)
          have z0 := HP3.out.z.cell 0
          have z1 := HP3.out.z.cell 1
          have t0 := HP3.out.z.frozen 0
          have t1 := HP3.out.z.frozen 1
          simp [zeroT] at z0 z1
          clear hmo hb3
          go_wp2_with fail
          rw [HE5.out]
          exact noT_post HP3.out.z HP3.out.m.bel (by decide) rfl rfl rfl rfl
        · have hmo := more_yes B2 bc2 l2 dev amt wr HR.out hok.2 hl20 ⟨g3, g4⟩ hcap
          clear hx hb hrow hP hRM hok hcap
          go_wp2_with fail
          refine hmo.mono ?_
          rintro e w3 ⟨A3, c3, rfl, hs3, hb3, hf3⟩
          have HP3 := hide (HP.out.below hb3)
          have o1 := HP3.out.m.o.cell 1
          have u1 := HP3.out.m.o.frozen 1
          simp [triC] at o1
          have hGl := HP3.out.m.o.lt
          have HS3 := hide hs3
          have hap : ∀ kk, blk A3 = some kk → (kk ≠ G ∧ blk A' ≠ some kk) ∧ kk ≠ w.heap.size + 1 ∧ SrcP w M kk := fun kk hkk => by
            have h1 := hf3 kk hkk
            have h2 := HP.out.m.o.lt
            exact ⟨⟨by omega, fun he => by have := (HP.out.m.own.lt kk he).2; omega⟩, by omega, .inl (by omega)⟩
          have HAP := hide hap
          obtain ⟨L, hL⟩ : ∃ L, moreL dev amt l2 = L := ⟨_, rfl⟩
          have hLl : L.length = l2.length := by rw [← hL, moreL_len]
          have HL := hide hL
          rw [hL, ← hLl] at HS3
          have HN := hide (show [(⟨A3, L, c3⟩ : Rw)].map encRw = [[.slice A3 l2.length c3]] by simp [encRw, hLl])
          have HOK := hide (show RowsOk 1 [[Value.slice A3 l2.length c3]] by rw [← HN.out]; exact okRw [⟨A3, L, c3⟩])
          have hLpos : 0 < L.length := by omega
          clear hmo hb3 hs3 hap hf3 hL hLl c0 c1 hc hbl
          go_wp2_with (at_builtin
                       refine wpList_app rfl (.tmp 99) (.tmp 101) 22 rfl elRow (B := G + 1) (rows := R.map encRw) (A2 := some ⟨_, 0, none⟩) (news := [[.slice A3 l2.length c3]]) rfl (HP3.out.m.own.alloc _) rfl rfl ?_ HOK.out ?_ ?_ ?_ ?_
                       · exact sl_of_blk (cs := #[.slice A3 l2.length c3]) (Blk.new _ _ _)
                       · (simp only [maxLen]; omega)
                       · omega
                       · (simp; try omega)
                       intro A2 c2 wb ho2 hg2 ha2
                       rw [← HN.out] at ho2
                       have hP2 := HP3.out.step (r := ⟨A3, L, c3⟩) ((Below.refl _ _).alloc (Nat.le_refl _) _) (HS3.out.below ((Below.refl _ _).alloc (Nat.le_refl _) _)) hLpos HAP.out ho2 hg2 ha2
                       have HP2 := hide hP2
                       have hgo := Blk.grown ((HP3.out.below ((Below.refl _ _).alloc (Nat.le_refl _) (.cells #[.slice A3 l2.length c3] 28))).m.o) hg2 (fun he => by have := (HP3.out.m.own.lt G he.symm).1; omega)
                       have d6 := hgo.cell 1
                       have v6 := hgo.frozen 1
                       simp [triC] at d6
                       clear hP2 hgo)
          go_roundw
          case rel => exact ⟨R.length + 1, R ++ [⟨A3, L, c3⟩], A2, c2, by omega, by go_num, by simp, by rw [HT.out, if_pos HQ.out, HL.out, allM, List.map_append]; exact congrArg (· ++ [L]) HRM.out, fun _ => trivial, HP2.out⟩
          case measure => simp [intOf]; omega
      · have hqi : ((R.length : Int) != y - f) = true := by simp; omega
        have hap : ∀ kk, blk B2 = some kk → (kk ≠ G ∧ blk A' ≠ some kk) ∧ kk ≠ w.heap.size + 1 ∧ SrcP w M kk := fun kk hkk => by
          have h1 := (HS.out.rows _ (List.mem_of_getElem? hx)).lt hpos hkk
          exact ⟨⟨by omega, fun he => by have := (hP.m.own.lt kk he).1; omega⟩, by omega, .inr ⟨_, List.mem_of_getElem? hx, hkk⟩⟩
        have HAP := hide hap
        clear hx hb hrow hP hRM hok hap
        go_wp2_with fail
        go_region_law (first
          | (refine step_app rfl (.tmp 75) (.tmp 81) 22 rfl elRow (B := G + 1) (rows := R.map encRw) (A2 := some ⟨_, 0, none⟩) (news := [(⟨B2, l2, bc2⟩ : Rw)].map encRw) rfl ?_ rfl rfl ?_ (okRw [⟨B2, l2, bc2⟩]) ?_ ?_ ?_ ?_
             · first | exact (HP.out.m.own.alloc _).drew | exact HP.out.m.own.alloc _
             · first | exact sl_of_blk (cs := #[.slice B2 l2.length bc2]) (Blk.drew (Blk.new _ _ _)) | exact sl_of_blk (cs := #[.slice B2 l2.length bc2]) (Blk.new _ _ _)
             · (simp only [maxLen]; omega)
             · omega
             · (simp; try omega)
             intro A2 c2 wb ho2 hg2 ha2
             have hP2 := HP.out.step (r := ⟨B2, l2, bc2⟩) (((Below.refl _ _).alloc (Nat.le_refl _) _).drew) ((HR.out.below (((Below.refl _ _).alloc (Nat.le_refl _) _).drew))) hpos HAP.out ho2 hg2 ha2
             have HP2 := hide hP2
             have hgo := Blk.grown ((HP.out.below (((Below.refl _ _).alloc (Nat.le_refl _) (.cells #[.slice B2 l2.length bc2] 28)).drew)).m.o) hg2 (fun he => by have := (HP.out.m.own.lt G he.symm).1; omega)
             have d6 := hgo.cell 1
             have v6 := hgo.frozen 1
             simp [triC] at d6
             clear hP2 hgo))
        all_goals
          go_wp2_with fail
          go_roundw
          case rel => exact ⟨R.length + 1, R ++ [⟨B2, l2, bc2⟩], A2, c2, by omega, by go_num, by simp, by rw [HT.out, if_neg hq, allM, List.map_append]; exact congrArg (· ++ [l2]) HRM.out, fun h => HCB.out (by omega), HP2.out⟩
          case measure => simp [intOf]; omega
    · have hcy := HCB.out (by omega)
      have HE0 := hide (show putE f (allM M) y dev amt = 0 by rw [HE.out, hcy]; rfl)
      rw [List.take_of_length_le (by rw [putR_len, allM_len]; omega)] at hRM
      have o0 := hP.m.o.cell 0
      simp [triC] at o0
      have z0 := hP.z.cell 0
      have z1 := hP.z.cell 1
      have t0 := hP.z.frozen 0
      have t1 := hP.z.frozen 1
      simp [zeroT] at z0 z1
      have HP := hide hP
      have HRM := hide hRM
      clear hP hRM hcy
      go_wp2_with fail
      rw [HE0.out]
      exact HP.out.post HRM.out rfl rfl rfl rfl
theorem putT_any (f : Int) (A : Option Addr) (cap : Nat) (M : List Rw) (y dev amt : Int) (w : World) (hs : MV w A M.length cap M) (hf : ok64 f) :
    Calls Try.prog 26 #[.agg #[.int .i64 f, .slice A M.length cap], .int .i64 y, .int .i64 dev, .int .i64 amt] w (PutT w (SrcP w M) f (putR f (allM M) y dev amt) (putE f (allM M) y dev amt)) := by
  by_cases h : putE f (allM M) y dev amt = 1
  · have := putT_no (SrcP w M) f A cap M y dev amt w hs hf h
    rw [h]; exact this
  · exact putT_yes f A cap M y dev amt w hs hf h
end Go.Proofs.Ytclcjonogjinfaa
