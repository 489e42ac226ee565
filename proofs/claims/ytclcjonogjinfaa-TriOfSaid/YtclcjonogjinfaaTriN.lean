/- An amount put into a triangle: what the program's steps leave; the refusals. -/
import Derived.Test.YtclcjonogjinfaaTriM
namespace Go.Proofs.Ytclcjonogjinfaa
open Go.RowKit

section
variable {w wx : World} {G gA : Nat} {f : Int} {R : List Rw} {E : List (List Value)} {A : Option Addr} {cap : Nat}
/-- One row more, stored where a nil one stood. -/
theorem TS.fill (h : TS w G f R ([.slice none 0 0] :: E) (some ⟨gA, 0, none⟩) cap wx) {wo : World} (hwo : Below wx.heap.size wx wo) {r : Rw} (hr : RowB wo r) (hf : ∀ kk, blk r.A = some kk → wx.heap.size ≤ kk) :
    TS w G f (R ++ [r]) E (some ⟨gA, 0, none⟩) cap (wo.setCell ⟨gA, R.length, none⟩ (.slice r.A r.l.length r.cap)) := by
  have h1 := h.below hwo
  have hne : gA ≠ G := fun e => h.ne (by rw [e]; rfl)
  obtain ⟨hA0, hA1⟩ := h.own.lt gA rfl
  have hGx := h.o.lt
  have hbx := h.bel.size
  have hel : (R ++ [r]).length + E.length = R.length + (([.slice none 0 0] : List Value) :: E).length := by simp; omega
  refine ⟨?_, ?_, fun x hx => ?_, fun x hx kk hk => ?_, fun i j x y hx hy he => ?_, h.ne, h.base, h1.bel.setCell (p := ⟨gA, R.length, none⟩) hA0 _⟩
  · rw [hel]; exact h1.o.far (fun e => hne e.symm) _
  · rw [hel]
    have h2 := h1.own.set_ (i := R.length) (j := 0) (row := [.slice none 0 0]) (by rw [List.getElem?_append_right (by simp)]; simp) (by omega) (u := .slice r.A r.l.length r.cap) rfl
    rw [List.set_append_right _ _ (by simp)] at h2
    simpa [encRw] using h2
  · rcases List.mem_append.1 hx with hx | hx
    · refine (h1.rows x hx).grown (grown_set _ _ _) (fun e => (h1.ap x hx gA e).2.2 rfl)
    · simp at hx; subst hx
      exact hr.grown (grown_set _ _ _) (fun e => by have := hf gA e; omega)
  · rcases List.mem_append.1 hx with hx | hx
    · exact h.ap x hx kk hk
    · simp at hx; subst hx
      have h2 := hf kk hk
      exact ⟨by omega, by omega, by simp [blk]; omega⟩
  · rcases get_app hx with gx | ⟨rfl, rfl⟩
    · rcases get_app hy with gy | ⟨rfl, rfl⟩
      · exact h.dist i j x y gx gy he
      · obtain ⟨b, hb, _⟩ := h.rows x (List.mem_of_getElem? gx)
        have h2 := (h.rows x (List.mem_of_getElem? gx)).lt (kk := b) (by rw [hb]; rfl)
        have := hf b (by rw [← he, hb]; rfl)
        omega
    · rcases get_app hy with gy | ⟨rfl, rfl⟩
      · obtain ⟨b, hb, _⟩ := h.rows y (List.mem_of_getElem? gy)
        have h2 := (h.rows y (List.mem_of_getElem? gy)).lt (kk := b) (by rw [hb]; rfl)
        have := hf b (by rw [he, hb]; rfl)
        omega
      · rfl
/-- The newest row, written over. -/
theorem TS.over {b c : Nat} {l0 l : List Int} (h : TS w G f (R ++ [⟨some ⟨b, 0, none⟩, l0, c⟩]) E A cap wx) {wy : World} (hg : wx.grownBy wy (some b)) (hl : l.length = l0.length) (hy : Blk wy b 3 (cellsI l)) :
    TS w G f (R ++ [⟨some ⟨b, 0, none⟩, l, c⟩]) E A cap wy := by
  have hm : (⟨some ⟨b, 0, none⟩, l0, c⟩ : Rw) ∈ R ++ [⟨some ⟨b, 0, none⟩, l0, c⟩] := by simp
  obtain ⟨p1, p2, p3⟩ := h.ap _ hm b rfl
  have hmap : (R ++ [(⟨some ⟨b, 0, none⟩, l, c⟩ : Rw)]).map encRw = (R ++ [(⟨some ⟨b, 0, none⟩, l0, c⟩ : Rw)]).map encRw := by simp [encRw, hl]
  have hlen : (R ++ [(⟨some ⟨b, 0, none⟩, l, c⟩ : Rw)]).length = (R ++ [(⟨some ⟨b, 0, none⟩, l0, c⟩ : Rw)]).length := by simp
  have hget : ∀ (j : Nat) (s : Rw), (R ++ [(⟨some ⟨b, 0, none⟩, l, c⟩ : Rw)])[j]? = some s → ∃ s', (R ++ [(⟨some ⟨b, 0, none⟩, l0, c⟩ : Rw)])[j]? = some s' ∧ s.A = s'.A := by
    intro j s hs
    rcases get_app hs with h1 | ⟨rfl, rfl⟩
    · exact ⟨s, by rw [List.getElem?_append_left (lt_of_get h1)]; exact h1, rfl⟩
    · exact ⟨⟨some ⟨b, 0, none⟩, l0, c⟩, by simp, rfl⟩
  refine ⟨?_, ?_, fun x hx => ?_, fun x hx kk hk => ?_, fun i j x y hx hy he => ?_, h.ne, h.base, h.bel.grown hg h.bel.size (fun k hk => by cases hk; exact p1)⟩
  · rw [hlen]; exact h.o.grown hg (fun e => p2 (by cases e; rfl))
  · rw [hmap, hlen]; exact h.own.kept hg (.inr p3)
  · rcases List.mem_append.1 hx with hx | hx
    · obtain ⟨j, hj⟩ := List.mem_iff_getElem?.1 hx
      refine (h.rows x (by simp [hx])).grown hg (fun e => ?_)
      have := h.dist j R.length x ⟨some ⟨b, 0, none⟩, l0, c⟩ (by rw [List.getElem?_append_left (lt_of_get hj)]; exact hj) (by simp) (by rw [e]; rfl)
      have := lt_of_get hj
      omega
    · simp at hx; subst hx
      obtain ⟨b', e1, e2, e3, e4⟩ := h.rows _ hm
      exact ⟨b, rfl, by simp only at e2 ⊢; omega, by simp only at e3 ⊢; omega, hy⟩
  · obtain ⟨j, hj⟩ := List.mem_iff_getElem?.1 hx
    obtain ⟨s', hs', e⟩ := hget j x hj
    exact h.ap s' (List.mem_of_getElem? hs') kk (by rw [← e]; exact hk)
  · obtain ⟨s', hs', e⟩ := hget i x hx
    obtain ⟨t', ht', e2⟩ := hget j y hy
    exact h.dist i j s' t' hs' ht' (by rw [← e, ← e2]; exact he)
end

set_option maxRecDepth 100000 in
set_option maxHeartbeats 4000000 in
theorem put_no (f : Int) (A : Option Addr) (cap : Nat) (M : List Rw) (y dev amt : Int) (w : World) (hs : MV w A M.length cap M) (hf : ok64 f) (h : putE f (allM M) y dev amt = 1) :
    Calls Try.prog 20 #[.agg #[.int .i64 f, .slice A M.length cap], .int .i64 y, .int .i64 dev, .int .i64 amt] w (PutN w f (putR f (allM M) y dev amt) 1) := by
  have HS := hide hs
  clear hs
  have hcases : rightC f (allM M) = false ∨ (rightC f (allM M) = true ∧ y < f) ∨ (rightC f (allM M) = true ∧ f ≤ y ∧ f + M.length ≤ y) ∨ (rightC f (allM M) = true ∧ f ≤ y ∧ y < f + M.length ∧ dev < 0) ∨ (rightC f (allM M) = true ∧ f ≤ y ∧ y < f + M.length ∧ 0 ≤ dev ∧ M.length - (y - f) ≤ dev) ∨
      (rightC f (allM M) = true ∧ f ≤ y ∧ y < f + M.length ∧ 0 ≤ dev ∧ dev < M.length - (y - f) ∧ moneyB amt = false) := by
    cases hr : rightC f (allM M)
    · exact .inl rfl
    · right
      unfold putE at h
      rw [hr, allM_len] at h
      by_cases hb : (true = false ∨ y < f ∨ f + (M.length : Int) ≤ y ∨ dev < 0 ∨ (M.length : Int) - (y - f) ≤ dev ∨ amt < 0 ∨ 1000000000000000 < amt)
      · simp only [true_and, moneyB, decide_eq_false_iff_not]; simp at hb; omega
      · rw [if_neg hb] at h; split at h <;> omega
  have HBD : Hid (rightC f (allM M) = true → 1 ≤ M.length ∧ M.length ≤ 20 ∧ 1601 ≤ f ∧ f ≤ 2401 - M.length) := fun hr => by
    rw [rightC, Bool.and_eq_true, allM_len] at hr; have := hr.1; simpa only [boundsB, decide_eq_true_eq] using this
  clear h
  go_enter Try.func20, Try.ntmps20
  go_wp2_with fail
  refine (right_any f A cap M _ (HS.out.below (((Below.refl _ _).alloc (Nat.le_refl _) _).alloc (by simp) _)) hf).mono ?_
  rintro e w1 ⟨rfl, hb1⟩
  have hz := Blk.below (Blk.new (w.alloc (.cells (triC f A M.length cap) 24)) 24 zeroT) hb1 (by simp)
  simp at hz
  have k0 := kept hb1 (b := w.heap.size) (o := 0) (u := .int .i64 f) (by simp)
  have k1 := kept hb1 (b := w.heap.size) (o := 1) (u := .slice A M.length cap) (by simp)
  have h1 : Below w.heap.size w w1 := chain (((Below.refl w.heap.size w).alloc (Nat.le_refl _) _).alloc (by simp) _) hb1
  have z0 := hz.cell 0
  have z1 := hz.cell 1
  have t0 := hz.frozen 0
  have t1 := hz.frozen 1
  simp [zeroT] at z0 z1
  have hzl := hz.lt
  clear hb1
  rcases hcases with hr | ⟨hr, g1⟩ | ⟨hr, g1, g2⟩ | ⟨hr, g1, g2, g3⟩ | ⟨hr, g1, g2, g3, g4⟩ | ⟨hr, g1, g2, g3, g4, g5⟩
  · rw [hr]
    go_wp2_with fail
    exact noT_at hz (by omega) h1 (by decide) rfl rfl rfl rfl
  iterate 4
    · obtain ⟨b1, b2, b3, b4⟩ := HBD.out hr
      rw [hr]
      go_wp2_with fail
      exact noT_at hz (by omega) h1 (by decide) rfl rfl rfl rfl
  · obtain ⟨b1, b2, b3, b4⟩ := HBD.out hr
    rw [hr]
    go_wp2_with fail
    refine (money_any amt _).mono ?_
    rintro e w2 ⟨rfl, rfl⟩
    rw [g5]
    go_wp2_with fail
    exact noT_at hz (by omega) h1 (by decide) rfl rfl rfl rfl
end Go.Proofs.Ytclcjonogjinfaa
