/- Part 19 of the proof. -/
import Derived.Test.YtmfohnchnbgbaaaGreatDoorYpM18
/- The version of a day: the program's walk. -/
namespace Go.Proofs.YtmfohnchnbgbaaaGreatDoor
open Go.RowKit Go.Shelf
attribute [local go_sem] Oper.semAt_some

theorem KeepsOthers.of_below {W W' : World} (h : Below W.heap.size W W') : KeepsOthers W W' :=
  ⟨h.size, fun k _ hk _ => (h.block k (Array.getElem?_eq_some_iff.1 hk).1).trans hk⟩
theorem setV_others (W : World) (g : Nat) (x : Vw) : KeepsOthers W (setV W g x) := by
  unfold setV
  exact ((((((((KeepsOthers.setCell _ _ _).trans (KeepsOthers.setCell _ _ _)).trans (KeepsOthers.setCell _ _ _)).trans (KeepsOthers.setCell _ _ _)).trans (KeepsOthers.setCell _ _ _)).trans (KeepsOthers.setCell _ _ _)).trans (KeepsOthers.setCell _ _ _)).trans (KeepsOthers.setCell _ _ _)).trans (KeepsOthers.setCell _ _ _)
theorem Blk.kept_ {W W' : World} {row : Option Nat} {g : Nat} {t : TypeId} {cs : Array Value} (h : Blk W g t cs) (hg : W.grownBy W' row) (hr : ∀ r, row = some r → ∃ o : Obj, W.heap[r]? = some o ∧ o.isCells = false) : Blk W' g t cs :=
  (grownBy_keeps_cells hg hr (k := g) h rfl).trans h
theorem SV.kept_ {W W' : World} {row : Option Nat} {sz n cap : Nat} {A : Option Addr} {rows : List (List Value)} (h : SV W sz A n cap rows) (hg : W.grownBy W' row) (hr : ∀ r, row = some r → ∃ o : Obj, W.heap[r]? = some o ∧ o.isCells = false) : SV W' sz A n cap rows := by
  refine ⟨fun i r hx => ?_, h.len, h.le, h.most, h.nil⟩
  obtain ⟨b, off, hA, hb, hc⟩ := h.sl i r hx
  have := hg.size
  exact ⟨b, off, hA, by omega, fun j u hu => cell_kept (hc j u hu) hg hr⟩
theorem VOK.kept_ {W W' : World} {row : Option Nat} {x : Vw} (h : VOK W x) (hg : W.grownBy W' row) (hr : ∀ r, row = some r → ∃ o : Obj, W.heap[r]? = some o ∧ o.isCells = false) : VOK W' x :=
  ⟨h.age.kept_ hg hr, h.zone.kept_ hg hr, h.peril.kept_ hg hr⟩

theorem run_load_errno {w : World} {g : Nat} {x : Value} (h : w.cell? ⟨g, 0, none⟩ = some x) : (loadVar 27 ⟨g, 0, none⟩).run Tryz.prog w = .ok x w := by
  simp [go_sem, h]
theorem ret_m {F : Fence} {n : Nat} {P : Program} {fn : Func} {R : Ending → World → Prop} {tmps : Array Value} {W : World} {p q : Tmp} {ty t2 : TypeId} {D g g2 : Nat} {t u : TypeId} {cs : Array Value} {d : TypeDesc} {x : Value}
    (h : fn.results = #[.cell p ty, .cell q t2]) (hK : W.heap[D]? = some (.deferred (some []))) (hp : tmps.getD p undef = .pointer (some ⟨g, 0, none⟩)) (hq : tmps.getD q undef = .pointer (some ⟨g2, 0, none⟩))
    (hg : Blk W g t cs) (hg2 : Blk W g2 u #[x]) (hu : P.underlying ty = some d) (hd : (match d with | .struct _ | .array _ _ => true | _ => false) = true) (hi : (P.info? ty).map (·.size) = some cs.size)
    (h2 : ∀ w : World, w.cell? ⟨g2, 0, none⟩ = some x → (loadVar t2 ⟨g2, 0, none⟩).run P w = .ok x w)
    (hR : R (.returned (.tuple #[.agg cs, x])) (W.putObj D (.deferred none))) : bodyPostM F n P fn R .ret { tmps, defers := [{ target := .collected D, args := #[] }] } W := by
  have hr : ∀ r, some D = some r → ∃ o : Obj, W.heap[r]? = some o ∧ o.isCells = false := fun r e => by cases e; exact ⟨_, hK, rfl⟩
  have h3 := hg.kept_ (grownBy_putObj' W D (.deferred none)) hr
  have h4 := hg2.kept_ (grownBy_putObj' W D (.deferred none)) hr
  refine ⟨by simp, .inl ⟨_, _, rfl, run_takeDeferred hK, ?_⟩⟩
  refine ⟨_, ?_, hR⟩
  rw [Array.getD_eq_getD_getElem?] at hp hq
  simp only [results, h]
  simp [Sem.run_bind, Result.andThen, hp, hq, asAddr, run_loadVar_row _ g t ty cs (0, 0) d h3 hu hd hi, h2 _ (h4.cell 0)]
/-- Between two rounds; a round has left. -/
def IA (w w6 : World) (d : Int) (pre : List (It w)) (W : World) : Prop := (∀ z ∈ pre, d < z.1.2.f) ∧ Below w6.heap.size w6 W
def IxA (w : World) (d : Int) (c : Code) (pre : List (It w)) (W : World) : Prop := (c = .ret ∧ ∃ ini last, pre = ini ++ [last] ∧ (∀ z ∈ ini, d < z.1.2.f) ∧ last.1.2.f ≤ d ∧ ∃ y : Vw, y.v = last.1.2.v ∧ VOK W y ∧ Blk W (w.heap.size + 1 + 1) 114 (boxV y) ∧ Blk W (w.heap.size + 1 + 1 + 1) 27 #[.int .i64 0]) ∧ Below w.heap.size w W
theorem IA.own (w w6 : World) (d : Int) : OwnFrom w6.heap.size (IA w w6 d) := OwnFrom.and (ownFrom_pure _ _) (ownFrom_below (Nat.le_refl _) (Nat.le_refl _))
theorem IxA.own (w : World) (d : Int) (B : Nat) (hB : w.heap.size ≤ B) (c : Code) : OwnFrom B (IxA w d c) := OwnFrom.and (Own.from (fun s X Y row hs hg hr => by
      obtain ⟨hc, ini, last, e1, e2, e3, y, e4, e5, e6, e7⟩ := hs
      exact ⟨hc, ini, last, e1, e2, e3, y, e4, e5.kept_ hg hr, e6.kept_ hg hr, e7.kept_ hg hr⟩) _) (ownFrom_below (Nat.le_refl _) hB)

set_option maxRecDepth 100000 in
set_option maxHeartbeats 8000000 in
theorem at_any (A : Option Addr) (cap : Nat) (M : List Vw) (d : Int) (w : World) (hs : TV w A M.length cap M) (hm : ∀ x ∈ M, LenV x) :
    Calls Tryz.prog 38 #[.agg #[.slice A M.length cap], .int .i64 d] w (AtP w (atL (allV M) d)) := by
  have HS := hide hs
  have HM := hide hm
  clear hs hm
  refine (callsIn_wide (n := 6)).1 ?_
  refine callsIn_of_wp_marks Tryz.func38 rfl trivial ?_ rfl
  simp only [Tryz.ntmps38, List.size_toArray, List.length_cons, List.length_nil, Nat.reduceAdd, Nat.reduceSub, Array.replicate_succ, Array.replicate_zero, List.push_toArray, List.append_toArray, List.nil_append, List.cons_append]
  gi_wp2
  obtain ⟨w5, hw5⟩ : ∃ W, (((w.alloc (.cells #[.slice A M.length cap] 67)).alloc (.cells #[.int .i64 d] 3)).alloc (.cells #[.int .i64 0, .int .i64 0, .int .i64 0, .int .i64 0, .int .i64 0, .slice none 0 0, .slice none 0 0, .slice none 0 0, .int .i64 0] 114)).alloc (.cells #[.int .i64 0] 27) = W := ⟨_, rfl⟩
  have hD : Blk w5 (w.heap.size + 1) 3 #[.int .i64 d] := by rw [← hw5]; exact ((Blk.new' (by simp)).alloc _).alloc _
  have hZ : Blk w5 (w.heap.size + 1 + 1) 114 zeroV := by rw [← hw5]; exact (Blk.new' (by simp)).alloc _
  have hE : Blk w5 (w.heap.size + 1 + 1 + 1) 27 #[.int .i64 0] := by rw [← hw5]; exact Blk.new' (by simp)
  have h5 : Below w.heap.size w w5 := by rw [← hw5]; exact ((((Below.refl _ _).alloc (Nat.le_refl _) _).alloc (by simp) _).alloc (by simp; omega) _).alloc (by simp; omega) _
  have hs5 : w5.heap.size = w.heap.size + 4 := by rw [← hw5]; simp
  rw [hw5]
  clear hw5
  refine ⟨trivial, ?_⟩
  refine (back_in Fence.wide 5 trivial rfl _ _ _ w5).mono ?_
  rintro e w' ⟨rfl, rfl⟩
  obtain ⟨w6, hw6⟩ : ∃ W, w5.alloc (.cells #[.slice A M.length cap] 65) = W := ⟨_, rfl⟩
  have hS6 : Blk w6 w5.heap.size 65 #[.slice A M.length cap] := by rw [← hw6]; exact Blk.new _ _ _
  have h56 : Below w5.heap.size w5 w6 := by rw [← hw6]; exact (Below.refl _ _).alloc (Nat.le_refl _) _
  have hs6 : w6.heap.size = w.heap.size + 5 := by rw [← hw6]; simp [hs5]
  have hD6 := hD.below h56 hD.lt
  have hZ6 := hZ.below h56 hZ.lt
  have hE6 := hE.below h56 hE.lt
  have h6 := chain h5 h56
  have hb6 : Below w6.heap.size w6 w6 := Below.refl _ _
  rw [hw6]
  rw [hs5] at hS6 ⊢
  clear hw6 hD hZ hE h5 h56 hs5
  gi_wp2
  have hM : ∀ x ∈ M, VOK w x ∧ LenV x := fun x hx => ⟨HS.out.rows x hx, HM.out x hx⟩
  obtain ⟨zs, hzs⟩ := backs_of hM
  refine wpIn_rangeFunc_ownH rfl (by omega) (gf := 121) (lb := #[.pointer (some ⟨w.heap.size + 4, 0, none⟩)]) rfl trivial (enters_of Tryz.func121 (by kernel_rfl) rfl)
    (back_stops Fence.wide 5 trivial rfl (by omega) w (w.heap.size + 4) w6.heap.size cap A M zs hzs HS.out (by omega) (by omega) w6 (Nat.le_refl _) (hS6.cell 0) h6) belowK_t (belowK_b (Nat.le_refl _)) (Below.refl _ _) (fun _ => rfl)
    (IA w w6 d) (IxA w d) (IA.own w w6 d) (IxA.own w d _ (by omega))
    ⟨by simp, hb6⟩
    (fun x a' W => ∃ Bx, w6.heap.size ≤ Bx ∧ Blk W Bx 114 (boxV x.1.2) ∧ a' = { tmps := #[.agg #[.slice A M.length cap], .int .i64 d, .pointer (some ⟨w.heap.size, 0, none⟩), .pointer (some ⟨w.heap.size + 1, 0, none⟩), .pointer (some ⟨w.heap.size + 1 + 1, 0, none⟩), .pointer (some ⟨w.heap.size + 1 + 1 + 1, 0, none⟩), undef, .pointer (some ⟨Bx, 0, none⟩), .pointer (some ⟨w.heap.size, 0, none⟩), .slice A M.length cap, .func (.func 121) #[] #[.pointer (some ⟨w.heap.size + 4, 0, none⟩)], .int .i64 x.1.1, .agg #[.int .i64 x.1.2.f, .int .i64 x.1.2.b0, .int .i64 x.1.2.b1, .int .i64 x.1.2.b2, .int .i64 x.1.2.b3, .slice x.1.2.aA x.1.2.age.length x.1.2.aC, .slice x.1.2.zA x.1.2.zone.length x.1.2.zC, .slice x.1.2.pA x.1.2.peril.length x.1.2.pC, .int .i64 x.1.2.mn], undef, undef, undef, undef, undef, undef, undef], defers := [] })
    (fun x a' _ X Y row hs hg hr => by obtain ⟨Bx, h1, h2, h3⟩ := hs; exact ⟨Bx, h1, h2.kept_ hg (fun r e => (hr r e).2), h3⟩)
    ?assign ?body ?done ?stop
  case assign =>
    rintro l pre ⟨⟨i, v⟩, hv⟩ W K ⟨hi1, hi2⟩ hK
    dsimp only [encIt]
    gi_wp2
    exact hK _ _ ((KeepsOthers.alloc _ _).from _) ((Below.refl _ W).alloc hi2.size _) ⟨hi1, hi2.alloc hi2.size _⟩ ⟨W.heap.size, hi2.size, Blk.new _ _ _, rfl⟩
  case body =>
    rintro l pre x a' W hl ⟨r, hr⟩ ⟨hi1, hi2⟩ ⟨Bx, hBx, bX, rfl⟩ hlt
    obtain ⟨v, hvv⟩ : ∃ v, x.1.2 = v := ⟨_, rfl⟩
    have hv := x.2.1
    have hlv := x.2.2
    have HSZ := hide hs6
    rw [hvv] at bX hv hlv ⊢
    obtain ⟨c0, c1, c2, c3, c4, c5, c6, c7, c8⟩ := blk_cells bX
    have hDW := (hD6.below hi2 hD6.lt).cell 0
    simp at hDW
    have hZW := hZ6.below hi2 hZ6.lt
    have hEW := hE6.below hi2 hE6.lt
    have hbW := chain h6 hi2
    have hvW : VOK W v := VOK.below hv hbW
    have HX := hide hvv
    clear hr hvv hs6 hl
    by_cases hd : v.f ≤ d
    · gi_wp2
      refine ⟨trivial, ?_⟩
      refine (CallsIn.inRound l (callsIn_wide.2 (own_any v W hvW hlv))).mono ?_
      rintro e W1 ⟨y, rfl, hyv, hyw, hyf, hyb⟩
      have hzW1 : Blk W1 (w.heap.size + 1 + 1) 114 zeroV := hZW.below hyb hZW.lt
      have heW1 : Blk W1 (w.heap.size + 1 + 1 + 1) 27 #[.int .i64 0] := hEW.below hyb hEW.lt
      obtain ⟨f0, f1, f2, f3, f4, f5, f6, f7, f8⟩ := blk_frozen hzW1
      have ee := heW1.cell 0
      have ef := heW1.frozen 0
      have e0 := hzW1.cell 0
      have e1 := hzW1.cell 1
      have e2 := hzW1.cell 2
      have e3 := hzW1.cell 3
      have e4 := hzW1.cell 4
      have e5 := hzW1.cell 5
      have e6 := hzW1.cell 6
      have e7 := hzW1.cell 7
      have e8 := hzW1.cell 8
      simp [zeroV] at e0 e1 e2 e3 e4 e5 e6 e7 e8 ee
      have HYW := hide hyw
      have HYF := hide hyf
      have HYB := hide hyb
      have HYV := hide hyv
      clear hyw hyf hyb hyv c0 c1 c2 c3 c4 c5 c6 c7 c8 hvW
      gi_wp2
      have k1 := (KeepsOthers.of_below HYB.out).trans ((setV_others W1 (w.heap.size + 1 + 1) y).trans (KeepsOthers.setCell _ ⟨w.heap.size + 1 + 1 + 1, 0, none⟩ (.int .i64 0)))
      have hsz := HSZ.out
      have hlw : w6.heap.size ≤ W.heap.size := hi2.size
      refine ⟨k1.from _, ⟨rfl, pre, x, rfl, hi1, by rw [HX.out]; exact hd, y, by rw [HX.out]; exact HYV.out, ?_, ?_, ?_⟩, ?_⟩
      · refine HYW.out.only (fun b hb => ?_) (by simp)
        have := HYF.out b hb
        exact (heap_setCell_other _ _ _ _ (show b ≠ (⟨w.heap.size + 1 + 1 + 1, 0, none⟩ : Addr).block by simp only; omega)).trans (setV_other W1 _ y (by omega))
      · exact (setV_blk y hzW1).far (by simp) _
      · have h9 : Blk (setV W1 (w.heap.size + 1 + 1) y) (w.heap.size + 1 + 1 + 1) 27 #[.int .i64 0] := (setV_other W1 _ y (by omega)).trans heW1
        exact h9.set_ 0 (.int .i64 0)
      · exact (setV_below y (chain hbW HYB.out) (by omega)).setCell (p := ⟨w.heap.size + 1 + 1 + 1, 0, none⟩) (by simp only; omega) _
    · gi_wp2
      refine ⟨KeepsFrom.refl _ _, Below.refl _ _, fun z hz => ?_, hi2⟩
      rcases List.mem_append.1 hz with h | h
      · exact hi1 z h
      · simp at h; subst h; rw [HX.out]; omega
  case done =>
    rintro D ys W hD rfl ⟨hi1, hi2⟩ hK
    have hZW := hZ6.below hi2 hZ6.lt
    have hEW := hE6.below hi2 hE6.lt
    have hbW := chain h6 hi2
    obtain ⟨f0, f1, f2, f3, f4, f5, f6, f7, f8⟩ := blk_frozen hZW
    have ee := hEW.cell 0
    have ef := hEW.frozen 0
    have e0 := hZW.cell 0
    have e1 := hZW.cell 1
    have e2 := hZW.cell 2
    have e3 := hZW.cell 3
    have e4 := hZW.cell 4
    have e5 := hZW.cell 5
    have e6 := hZW.cell 6
    have e7 := hZW.cell 7
    have e8 := hZW.cell 8
    simp [zeroV] at e0 e1 e2 e3 e4 e5 e6 e7 e8 ee
    have HSZ := hide hs6
    clear hs6
    gi_wp2
    have HA := hide (atL_none (l := allV M) (d := d) (fun j y hy => by
      obtain ⟨v, hv, rfl⟩ : ∃ v, M[j]? = some v ∧ v.v = y := by
        simp only [allV, List.getElem?_map, Option.map_eq_some_iff] at hy
        exact hy
      have hj := lt_of_get hv
      obtain ⟨z, hz⟩ := get_of (l := ys) (k := M.length - 1 - j) (by rw [hzs.1]; omega)
      have h1 := (hzs.2 _ z hz).2
      rw [show M.length - 1 - (M.length - 1 - j) = j by omega, hv] at h1
      cases h1
      exact hi1 z (List.mem_of_getElem? hz)))
    have hDl : D < W.heap.size := (Array.getElem?_eq_some_iff.1 hK).1
    have hsz := HSZ.out
    have hK2 := ((setV_others W (w.heap.size + 1 + 1) zeroW).trans (KeepsOthers.setCell _ ⟨w.heap.size + 1 + 1 + 1, 0, none⟩ (.int .i64 7))).same D _ hK rfl
    have h9 : Blk (setV W (w.heap.size + 1 + 1) zeroW) (w.heap.size + 1 + 1 + 1) 27 #[.int .i64 0] := (setV_other W _ zeroW (by omega)).trans hEW
    refine ret_m (p := 4) (q := 5) (g := w.heap.size + 1 + 1) (g2 := w.heap.size + 1 + 1 + 1) (cs := zeroV) (x := .int .i64 7) (t := 114) (u := 27) rfl hK2 rfl rfl ((setV_blk zeroW hZW).far (by simp) _) (h9.set_ 0 (.int .i64 7)) Tryz.underlying114 rfl (by kernel_rfl) (fun _ h => run_load_errno h) ?_
    rw [HA.out]
    exact ⟨((setV_below zeroW hbW (by omega)).setCell (p := ⟨w.heap.size + 1 + 1 + 1, 0, none⟩) (by simp only; omega) _).trans (belowK_b (w := w) (Nat.le_refl _) _ D _ _ (by omega) hK2 rfl rfl), .inl ⟨rfl, rfl⟩⟩
  case stop =>
    rintro D c pre W hD ⟨k, hk, rfl⟩ ⟨⟨rfl, ini, last, e1, e2, e3, y, e4, e5, e6, e7⟩, hB⟩ hK
    gi_wp2
    have hr : ∀ r, some D = some r → ∃ o : Obj, W.heap[r]? = some o ∧ o.isCells = false := fun r e => by cases e; exact ⟨_, hK, rfl⟩
    have HA : atL (allV M) d = some last.1.2.v := by
      have hk0 : k = ini.length + 1 := by
        have := congrArg List.length e1
        rw [List.length_take, hzs.1, Nat.min_eq_left hk] at this
        simpa using this
      have hl : zs[ini.length]? = some last := by
        have h1 : (zs.take k)[ini.length]? = some last := by rw [e1]; simp
        rw [List.getElem?_take] at h1
        rw [if_pos (by omega)] at h1
        exact h1
      have h2 := (hzs.2 _ _ hl).2
      refine atL_hit (k := M.length - 1 - ini.length) (allV_get h2) e3 (fun j y hj hy => ?_)
      obtain ⟨v, hv, rfl⟩ : ∃ v, M[j]? = some v ∧ v.v = y := by
        simp only [allV, List.getElem?_map, Option.map_eq_some_iff] at hy
        exact hy
      have hj2 := lt_of_get hv
      obtain ⟨z, hz⟩ := get_of (l := zs) (k := M.length - 1 - j) (by rw [hzs.1]; omega)
      have h3 := (hzs.2 _ z hz).2
      rw [show M.length - 1 - (M.length - 1 - j) = j by omega, hv] at h3
      cases h3
      refine e2 z ?_
      have h4 : (zs.take k)[M.length - 1 - j]? = some z := by rw [List.getElem?_take, if_pos (by omega)]; exact hz
      rw [e1, List.getElem?_append_left (by omega)] at h4
      exact List.mem_of_getElem? h4
    refine ret_m (p := 4) (q := 5) (g := w.heap.size + 1 + 1) (g2 := w.heap.size + 1 + 1 + 1) (cs := boxV y) (x := .int .i64 0) (t := 114) (u := 27) rfl hK rfl rfl e6 e7 Tryz.underlying114 rfl (by kernel_rfl) (fun _ h => run_load_errno h) ?_
    rw [HA]
    exact ⟨hB.trans (belowK_b (w := w) (Nat.le_refl _) _ D _ _ (by omega) hK rfl rfl), .inr ⟨_, rfl, y, rfl, e4, e5.kept_ (grownBy_putObj' W D (.deferred none)) hr⟩⟩
end Go.Proofs.YtmfohnchnbgbaaaGreatDoor
