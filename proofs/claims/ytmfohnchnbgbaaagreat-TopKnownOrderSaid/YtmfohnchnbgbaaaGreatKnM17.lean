/- Part 17 of the proof. -/
import Derived.Deep.CutRange
import Derived.Deep.RegionHeld3
import Derived.Test.YtmfohnchnbgbaaaGreatKnM16
/- An amount put into a triangle: what the program's steps leave; the refusals. -/
namespace Go.Proofs.YtmfohnchnbgbaaaGreat
open Go.RowKit

section
variable {w wx : World} {G gA : Nat} {f : Int} {R : List Rw} {E : List (List Value)} {A : Option Addr} {cap : Nat}
/-- One row more, stored where a nil one stood. -/
theorem TS.fill (h : TS w G f R ([.slice none 0 0] :: E) (some ⟨gA, 0, none⟩) cap wx) {wo : World} (hwo : Below wx.heap.size wx wo) {r : Rw} (hr : RowB wo r) (hf : ∀ kk, blk r.A = some kk → wx.heap.size ≤ kk) :
    TS w G f (R ++ [r]) E (some ⟨gA, 0, none⟩) cap (wo.setCell ⟨gA, R.length, none⟩ (.slice r.A r.l.length r.cap)) := by
  have h1 := h.below hwo
  have hne : gA ≠ G := fun e => h.ne (by rw [e]; rfl)
  obtain ⟨hA0, hA1⟩ := h.own.lt gA rfl
  have hGx := h.o.lt
  have hbx := h.bel.size
  have hel : (R ++ [r]).length + E.length = R.length + (([.slice none 0 0] : List Value) :: E).length := by simp; omega
  refine ⟨?_, ?_, fun x hx => ?_, fun x hx kk hk => ?_, fun i j x y hx hy he => ?_, h.ne, h.base, h1.bel.setCell (p := ⟨gA, R.length, none⟩) hA0 _⟩
  · rw [hel]; exact h1.o.far (fun e => hne e.symm) _
  · rw [hel]
    have h2 := h1.own.set_ (i := R.length) (j := 0) (row := [.slice none 0 0]) (by rw [List.getElem?_append_right (by simp)]; simp) (by omega) (u := .slice r.A r.l.length r.cap) rfl
    rw [List.set_append_right _ _ (by simp)] at h2
    simpa [encRw] using h2
  · rcases List.mem_append.1 hx with hx | hx
    · refine (h1.rows x hx).grown (grown_set _ _ _) (fun e => (h1.ap x hx gA e).2.2 rfl)
    · simp at hx; subst hx
      exact hr.grown (grown_set _ _ _) (fun e => by have := hf gA e; omega)
  · rcases List.mem_append.1 hx with hx | hx
    · exact h.ap x hx kk hk
    · simp at hx; subst hx
      have h2 := hf kk hk
      exact ⟨by omega, by omega, by simp [blk]; omega⟩
  · rcases get_app hx with gx | ⟨rfl, rfl⟩
    · rcases get_app hy with gy | ⟨rfl, rfl⟩
      · exact h.dist i j x y gx gy he
      · obtain ⟨b, hb, _⟩ := h.rows x (List.mem_of_getElem? gx)
        have h2 := (h.rows x (List.mem_of_getElem? gx)).lt (kk := b) (by rw [hb]; rfl)
        have := hf b (by rw [← he, hb]; rfl)
        omega
    · rcases get_app hy with gy | ⟨rfl, rfl⟩
      · obtain ⟨b, hb, _⟩ := h.rows y (List.mem_of_getElem? gy)
        have h2 := (h.rows y (List.mem_of_getElem? gy)).lt (kk := b) (by rw [hb]; rfl)
        have := hf b (by rw [he, hb]; rfl)
        omega
      · rfl
/-- The newest row, written over. -/
theorem TS.over {b c : Nat} {l0 l : List Int} (h : TS w G f (R ++ [⟨some ⟨b, 0, none⟩, l0, c⟩]) E A cap wx) {wy : World} (hg : wx.grownBy wy (some b)) (hl : l.length = l0.length) (hy : Blk wy b 3 (cellsI l)) :
    TS w G f (R ++ [⟨some ⟨b, 0, none⟩, l, c⟩]) E A cap wy := by
  have hm : (⟨some ⟨b, 0, none⟩, l0, c⟩ : Rw) ∈ R ++ [⟨some ⟨b, 0, none⟩, l0, c⟩] := by simp
  obtain ⟨p1, p2, p3⟩ := h.ap _ hm b rfl
  have hmap : (R ++ [(⟨some ⟨b, 0, none⟩, l, c⟩ : Rw)]).map encRw = (R ++ [(⟨some ⟨b, 0, none⟩, l0, c⟩ : Rw)]).map encRw := by simp [encRw, hl]
  have hlen : (R ++ [(⟨some ⟨b, 0, none⟩, l, c⟩ : Rw)]).length = (R ++ [(⟨some ⟨b, 0, none⟩, l0, c⟩ : Rw)]).length := by simp
  have hget : ∀ (j : Nat) (s : Rw), (R ++ [(⟨some ⟨b, 0, none⟩, l, c⟩ : Rw)])[j]? = some s → ∃ s', (R ++ [(⟨some ⟨b, 0, none⟩, l0, c⟩ : Rw)])[j]? = some s' ∧ s.A = s'.A := by
    intro j s hs
    rcases get_app hs with h1 | ⟨rfl, rfl⟩
    · exact ⟨s, by rw [List.getElem?_append_left (lt_of_get h1)]; exact h1, rfl⟩
    · exact ⟨⟨some ⟨b, 0, none⟩, l0, c⟩, by simp, rfl⟩
  refine ⟨?_, ?_, fun x hx => ?_, fun x hx kk hk => ?_, fun i j x y hx hy he => ?_, h.ne, h.base, h.bel.grown hg h.bel.size (fun k hk => by cases hk; exact p1)⟩
  · rw [hlen]; exact h.o.grown hg (fun e => p2 (by cases e; rfl))
  · rw [hmap, hlen]; exact h.own.kept hg (.inr p3)
  · rcases List.mem_append.1 hx with hx | hx
    · obtain ⟨j, hj⟩ := List.mem_iff_getElem?.1 hx
      refine (h.rows x (by simp [hx])).grown hg (fun e => ?_)
      have := h.dist j R.length x ⟨some ⟨b, 0, none⟩, l0, c⟩ (by rw [List.getElem?_append_left (lt_of_get hj)]; exact hj) (by simp) (by rw [e]; rfl)
      have := lt_of_get hj
      omega
    · simp at hx; subst hx
      obtain ⟨b', e1, e2, e3, e4⟩ := h.rows _ hm
      exact ⟨b, rfl, by simp only at e2 ⊢; omega, by simp only at e3 ⊢; omega, hy⟩
  · obtain ⟨j, hj⟩ := List.mem_iff_getElem?.1 hx
    obtain ⟨s', hs', e⟩ := hget j x hj
    exact h.ap s' (List.mem_of_getElem? hs') kk (by rw [← e]; exact hk)
  · obtain ⟨s', hs', e⟩ := hget i x hx
    obtain ⟨t', ht', e2⟩ := hget j y hy
    exact h.dist i j s' t' hs' ht' (by rw [← e, ← e2]; exact he)
end

end Go.Proofs.YtmfohnchnbgbaaaGreat

/- An amount put into a triangle: the program's walk where it is not refused at once. -/
namespace Go.Proofs.YtmfohnchnbgbaaaGreat
open Go.RowKit

theorem make_rows (n : Nat) (hm : n ≤ 1000) (W : World) :
    (Instr.makeSlice 34 (.int .i64 (n : Int)) (.int .i64 (n : Int))).run Tryz.prog W = .ok (.slice (some ⟨W.heap.size, 0, none⟩) n n) (W.alloc (.cells (List.replicate n (.slice none 0 0)).toArray 39)) := by
  have h := run_make_row' (P := Tryz.prog) 34 39 (.slice none 0 0) 24 Tryz.underlying34 (by kernel_rfl) rfl .i64 .i64 n (by omega) (by omega) W
  have e : madeCells #[Value.slice none 0 0] n = (List.replicate n (Value.slice none 0 0)).toArray := by
    apply Array.ext'
    rw [toList_madeCells_one]
  rw [h, e]
theorem nils_flat (n : Nat) : (List.replicate n [Value.slice none 0 0]).flatten = List.replicate n (Value.slice none 0 0) := by
  induction n with
  | zero => rfl
  | succ n ih => rw [List.replicate_succ, List.flatten_cons, ih, List.replicate_succ]; rfl
theorem nils_ok (n : Nat) : RowsOk 1 (List.replicate n [Value.slice none 0 0]) := fun r hr => by
  have := (List.mem_replicate.1 hr).2
  subst this
  exact ⟨rfl, fun u hu => by simp at hu; subst hu; rfl⟩

theorem ts_new1 (w1 : World) (f : Int) (n : Nat) (hn : n ≤ 1000) : TS w1 (w1.heap.size + 1) f [] (List.replicate n [.slice none 0 0]) (some ⟨w1.heap.size, 0, none⟩) n
    (((w1.alloc (.cells (Array.replicate n (.slice none 0 0)) 39)).alloc (.cells #[.int .i64 f, .slice (some ⟨w1.heap.size, 0, none⟩) n n] 36)).drew) := by
  have ho := (OwnS.lit w1 (B := w1.heap.size) (Nat.le_refl _) 39 (sz := 1) (List.replicate n [.slice none 0 0]) (nils_ok n) (by simp [maxLen]; omega) (Array.replicate n (.slice none 0 0)) (by rw [nils_flat]; simp)).alloc (.cells #[.int .i64 f, .slice (some ⟨w1.heap.size, 0, none⟩) n n] 36)
  rw [List.length_replicate] at ho
  refine ⟨?_, ?_, (fun r hr => by simp at hr), (fun r hr => by simp at hr), (fun i j r s hr => by simp at hr), by simp [blk], by omega, (((Below.refl _ _).alloc (Nat.le_refl _) _).alloc (by simp) _).drew⟩
  · rw [List.length_nil, List.length_replicate, Nat.zero_add]
    exact (Blk.new' (by simp)).drew
  · rw [List.length_nil, List.length_replicate, Nat.zero_add, List.map_nil, List.nil_append]
    exact ho.drew
theorem ts_new2 (w1 : World) (f : Int) (n : Nat) (hn : n ≤ 1000) : TS w1 w1.heap.size f [] (List.replicate n [.slice none 0 0]) (some ⟨w1.heap.size + 1, 0, none⟩) n
    (((w1.alloc (.cells #[.int .i64 f, .slice (some ⟨w1.heap.size + 1, 0, none⟩) n n] 36)).alloc (.cells (Array.replicate n (.slice none 0 0)) 39)).drew) := by
  have ho := OwnS.lit (w1.alloc (.cells #[.int .i64 f, .slice (some ⟨w1.heap.size + 1, 0, none⟩) n n] 36)) (B := w1.heap.size) (by simp) 39 (sz := 1) (List.replicate n [.slice none 0 0]) (nils_ok n) (by simp [maxLen]; omega) (Array.replicate n (.slice none 0 0)) (by rw [nils_flat]; simp)
  rw [List.length_replicate] at ho
  simp only [World.size_alloc] at ho
  refine ⟨?_, ?_, (fun r hr => by simp at hr), (fun r hr => by simp at hr), (fun i j r s hr => by simp at hr), by simp [blk], by omega, (((Below.refl _ _).alloc (Nat.le_refl _) _).alloc (by simp) _).drew⟩
  · rw [List.length_nil, List.length_replicate, Nat.zero_add]
    exact ((Blk.new _ _ _).alloc _).drew
  · rw [List.length_nil, List.length_replicate, Nat.zero_add, List.map_nil, List.nil_append]
    exact ho.drew

end Go.Proofs.YtmfohnchnbgbaaaGreat

/- The program lives: three rows, of two years. -/
namespace Go.Proofs.YtmfohnchnbgbaaaGreat
open Go.RowKit

theorem PutN.yes {w w' : World} {f : Int} {c : List (List Int)} {e : Ending} (h : PutN w f c 0 e w') : Below w.heap.size w w' ∧ ∃ A' c' R, e = .returned (.tuple #[.agg #[.int .i64 f, .slice A' R.length c'], .int .i64 0]) ∧ MV w' A' R.length c' R ∧ allM R = c ∧ FreshT w A' R := by
  obtain ⟨h1, ⟨h2, _⟩ | ⟨_, h2⟩⟩ := h
  · exact absurd rfl h2
  · exact ⟨h1, h2⟩
theorem PutN.no {w w' : World} {f code : Int} {c : List (List Int)} {e : Ending} (h : PutN w f c code e w') (hc : code ≠ 0) : Below w.heap.size w w' ∧ e = .returned (.tuple #[.agg #[.int .i64 0, .slice none 0 0], .int .i64 code]) := by
  obtain ⟨h1, ⟨_, h2⟩ | ⟨h3, _⟩⟩ := h
  · exact ⟨h1, h2⟩
  · exact absurd h3 hc
theorem ok_rows3 (l : List R3) : RowsOk 3 (l.map enc3) := by
  intro r hr
  obtain ⟨x, _, rfl⟩ := List.mem_map.1 hr
  refine ⟨rfl, fun u hu => ?_⟩
  simp [enc3] at hu
  rcases hu with rfl | rfl | rfl <;> rfl
def lit3 : List R3 := [⟨146000, 146000, 5⟩, ⟨146000, 146200, 3⟩, ⟨146200, 146200, 7⟩]
theorem lit3_e : ofE lit3 = 0 := by decide
theorem lit3_f : fromL lit3 = 2000 := by decide
theorem lit3_c : ofC lit3 = [[5, 8], [7]] := by decide
theorem lit1_e : ofE [⟨9, 8, 1⟩] = 4 := by decide
theorem litP_e : putE 2000 [[5, 8], [7]] 2000 0 10 = 0 := by decide
theorem litP_c : putR 2000 [[5, 8], [7]] 2000 0 10 = [[15, 18], [7]] := by decide
theorem litQ_e : putE 2000 [[5, 8], [7]] 2002 0 1 = 1 := by decide
theorem litD : diagL 2000 [[5, 8], [7]] = [8, 7] := by decide
theorem litR : rightC 2000 [[5, 8], [7]] = true := by decide
theorem litR0 : rightC 0 [] = false := by decide
theorem sv_nil (w : World) (sz : Nat) : SV w sz none 0 0 [] := ⟨Sl.nil_, rfl, Nat.le_refl _, by simp [maxLen], fun _ => rfl⟩
theorem lit_sv (w : World) (l : List R3) (hm : l.length ≤ 1000) (cs : Array Value) (hcs : cs.toList = (l.map enc3).flatten) : SV (w.alloc (.cells cs 54)) 3 (some ⟨w.heap.size, 0, none⟩) l.length l.length (l.map enc3) := by
  have h := (OwnS.lit w (B := 0) (Nat.zero_le _) 54 (l.map enc3) (ok_rows3 l) (by simp [maxLen]; omega) cs hcs).sv
  rwa [List.length_map] at h
theorem lit_ints (w : World) (l : List Int) (hm : l.length ≤ 1000) (cs : Array Value) (hcs : cs.toList = (l.map encI).flatten) : SV (w.alloc (.cells cs 3)) 1 (some ⟨w.heap.size, 0, none⟩) l.length l.length (l.map encI) := by
  have h := (OwnS.lit w (B := 0) (Nat.zero_le _) 3 (l.map encI) (okI l) (by simp [maxLen]; omega) cs hcs).sv
  rwa [List.length_map] at h

theorem ok2000 : ok64 2000 := by unfold ok64; omega
theorem ok0 : ok64 0 := by unfold ok64; omega
/-- What lies there while the program is tried. -/
structure Liv (w : World) (X Y : Nat) (A Ad Au A1 A2 U1 U2 : Option Addr) (c cd cu c1 c2 e1 e2 : Nat) (wx : World) : Prop where
  x : Blk wx X 36 #[.int .i64 2000, .slice A 2 c]
  y : Blk wx Y 36 #[.int .i64 2000, .slice Au 2 cu]
  m : MV wx A 2 c [⟨A1, [5, 8], c1⟩, ⟨A2, [7], c2⟩]
  u : MV wx Au 2 cu [⟨U1, [15, 18], e1⟩, ⟨U2, [7], e2⟩]
  d : SV wx 1 Ad 2 cd ([8, 7].map encI)
  bel : Below w.heap.size w wx
theorem Liv.below {w : World} {X Y : Nat} {A Ad Au A1 A2 U1 U2 : Option Addr} {c cd cu c1 c2 e1 e2 : Nat} {wx wy : World} (h : Liv w X Y A Ad Au A1 A2 U1 U2 c cd cu c1 c2 e1 e2 wx) (hb : Below wx.heap.size wx wy) : Liv w X Y A Ad Au A1 A2 U1 U2 c cd cu c1 c2 e1 e2 wy :=
  ⟨h.x.below hb h.x.lt, h.y.below hb h.y.lt, h.m.below hb, h.u.below hb, h.d.below hb, chain h.bel hb⟩

end Go.Proofs.YtmfohnchnbgbaaaGreat

/- The contracts of layer 21, from a world in which the arguments were read. -/
namespace Go.Proofs.YtmfohnchnbgbaaaGreat
open Go.RowKit

/-- A contract's Below, from the base on. -/
theorem from_base {w0 w w' : World} (hb : Below w0.heap.size w0 w) (h : Below w.heap.size w w') : Below w0.heap.size w0 w' ∧ Below w.heap.size w w' := ⟨chain hb h, h⟩
section
variable {w0 w : World} {f : Int} {A : Option Addr} {n cap : Nat} {M : List Rw}
theorem right_b {v : Bool} (hs : MV w0 A n cap M) (hb : Below w0.heap.size w0 w) (hf : ok64 f) (hv : rightC f (allM M) = v) : Calls Tryz.prog 32 #[.agg #[.int .i64 f, .slice A n cap]] w fun e w' => e = .returned (.bool v) ∧ Below w0.heap.size w0 w' ∧ Below w.heap.size w w' := by
  obtain rfl := hs.len
  subst hv
  exact (right_any f A cap M w (hs.below hb) hf).mono fun _ _ ⟨he, h⟩ => ⟨he, from_base hb h⟩
def DiagB (w0 w : World) (D : List Int) (m : Nat) (e : Ending) (w' : World) : Prop := ∃ A' c', e = .returned (.slice A' m c') ∧ SV w' 1 A' m c' (D.map encI) ∧ Below w0.heap.size w0 w' ∧ Below w.heap.size w w'
theorem diag_b {D : List Int} {m : Nat} (hs : MV w0 A n cap M) (hb : Below w0.heap.size w0 w) (hf : ok64 f) (hD : diagL f (allM M) = D) (hm : D.length = m) : Calls Tryz.prog 12 #[.agg #[.int .i64 f, .slice A n cap]] w (DiagB w0 w D m) := by
  obtain rfl := hs.len
  subst hD hm
  exact (diag_any f A cap M w (hs.below hb) hf).mono fun _ _ ⟨A', c', he, h1, h⟩ => ⟨A', c', he, h1, from_base hb h⟩
theorem sameI_b {w1 w2 : World} {A A' : Option Addr} {c c' : Nat} {l : List Int} (hs : SV w1 1 A n c (l.map encI)) (hb1 : Below w1.heap.size w1 w) (hs' : SV w2 1 A' n c' (l.map encI)) (hb2 : Below w2.heap.size w2 w) (hb : Below w0.heap.size w0 w) (hm : n ≤ 9223372036854775806) :
    Calls Tryz.prog 14 #[.slice A n c, .slice A' n c'] w fun e w' => e = .returned (.bool true) ∧ Below w0.heap.size w0 w' ∧ Below w.heap.size w w' :=
  (sameI_any A A' n c c' l w (hs.below hb1) (hs'.below hb2) hm).mono fun _ _ ⟨he, h⟩ => ⟨he, from_base hb h⟩
end
theorem diag_len {f : Int} {c : List (List Int)} : (diagL f c).length ≤ 20 := by
  unfold diagL
  split
  · rename_i h
    rw [List.length_map]
    rw [rightC, Bool.and_eq_true] at h
    have := h.1
    simp only [boundsB, decide_eq_true_eq] at this
    omega
  · simp
end Go.Proofs.YtmfohnchnbgbaaaGreat

/- The triangle of rows: facts of its cells; its contract from a base on. -/
namespace Go.Proofs.YtmfohnchnbgbaaaGreat
open Go.RowKit

section
variable {w0 w : World} {A : Option Addr} {n cap : Nat} {l : List R3}
def OfB (w0 w : World) (f : Int) (C : List (List Int)) (m : Nat) (e : Ending) (w' : World) : Prop :=
  ∃ A' c' R, e = .returned (.tuple #[.agg #[.int .i64 f, .slice A' m c'], .int .i64 0]) ∧ MV w' A' m c' R ∧ allM R = C ∧ FreshT w A' R ∧ Below w0.heap.size w0 w' ∧ Below w.heap.size w w'
theorem of_yes {f : Int} {C : List (List Int)} {m : Nat} (hs : SV w0 3 A n cap (l.map enc3)) (hb : Below w0.heap.size w0 w) (hE : ofE l = 0) (hf : fromL l = f) (hC : ofC l = C) (hm : C.length = m) :
    Calls Tryz.prog 11 #[.slice A n cap] w (OfB w0 w f C m) := by
  have hn : l.length = n := by have := hs.len; simpa using this
  subst hn hf hC hm
  refine (of_any A cap l w (hs.below hb)).mono fun e w' h => ?_
  rw [hE] at h
  obtain ⟨h1, A', c', R, he, hmv, hr, hfr⟩ := h.yes
  have hl : R.length = (ofC l).length := by rw [← hr, allM_len]
  rw [hl] at he hmv
  exact ⟨A', c', R, he, hmv, hr, hfr, from_base hb h1⟩
theorem of_no {E : Int} (hs : SV w0 3 A n cap (l.map enc3)) (hb : Below w0.heap.size w0 w) (hE : ofE l = E) (h0 : E ≠ 0) :
    Calls Tryz.prog 11 #[.slice A n cap] w fun e w' => e = .returned (.tuple #[.agg #[.int .i64 0, .slice none 0 0], .int .i64 E]) ∧ Below w0.heap.size w0 w' ∧ Below w.heap.size w w' := by
  have hn : l.length = n := by have := hs.len; simpa using this
  subst hn
  refine (of_any A cap l w (hs.below hb)).mono fun e w' h => ?_
  rw [hE] at h
  obtain ⟨h1, he⟩ := h.no h0
  exact ⟨he, from_base hb h1⟩
end

/-- A row that the triangle has a cell for. -/
def Fits (f : Int) (n : Nat) (x : R3) : Prop := f ≤ yrV x.a ∧ idxO f x < n ∧ 0 ≤ devO x ∧ devO x < (n : Int) - idxO f x ∧ 0 ≤ x.m ∧ x.m ≤ 1000000000000000
theorem fits_all {l : List R3} (hc : chkL l = 0) (_hn : l ≠ []) {x : R3} (h : x ∈ l) : Fits (fromL l) (yearsN l) x := by
  have h1 := from_le h
  have h2 := le_to h
  have h3 := chk_yr (chkL_ok.1 hc x h)
  have h4 := chk_ok (chkL_ok.1 hc x h)
  have h5 := from_bd hc
  have h6 := to_bd hc
  unfold Fits idxO devO yearsN
  refine ⟨h1, by omega, by omega, by omega, h4.2.2.2.1, h4.2.2.2.2⟩
theorem ofO_shape {l : List R3} {c : List (List Int)} (hc : chkL l = 0) (h : ofO l = some c) : Shape (yearsN l) c :=
  shape_all (shape_zeros _) (fun x hx => (chk_ok (chkL_ok.1 hc x hx)).2.2.2.1) h
theorem right_shape {f : Int} {n : Nat} {c : List (List Int)} (h : Shape n c) (h1 : 1 ≤ n) (h2 : n ≤ 20) (h3 : 1601 ≤ f) (h4 : f ≤ 2401 - n) : rightC f c = true := by
  obtain ⟨hl, hr⟩ := h
  subst hl
  rw [rightC, Bool.and_eq_true]
  refine ⟨by simp only [boundsB, decide_eq_true_eq]; omega, (rowsB_iff _ _).2 fun i l hx => ?_⟩
  obtain ⟨h5, h6⟩ := hr i l hx
  simp only [goodRow, Bool.and_eq_true, decide_eq_true_eq, List.all_eq_true, okV]
  exact ⟨h5, h6⟩
/-- All that is known where the triangle is made. -/
theorem made {l : List R3} (h : ofE l = 0) : l ≠ [] ∧ chkL l = 0 ∧ ofO l = some (ofC l) ∧ Shape (yearsN l) (ofC l) ∧ rightC (fromL l) (ofC l) = true ∧ 1 ≤ yearsN l ∧ yearsN l ≤ 20 ∧ 1601 ≤ fromL l ∧ fromL l ≤ 2401 ∧ (ofC l).length = yearsN l := by
  obtain ⟨hn, hc, hb, c, ho⟩ := ofE_zero h
  have e : ofC l = c := by rw [ofC, ho]; rfl
  rw [e]
  have hs := ofO_shape hc ho
  have h1 := from_bd hc
  have h2 := to_bd hc
  have h3 := from_to hc hn
  have h4 : 1 ≤ yearsN l := by unfold yearsN; omega
  have h5 : yearsN l ≤ 20 := by unfold yearsN; omega
  have h6 : fromL l ≤ 2401 - (yearsN l : Int) := by unfold yearsN; omega
  exact ⟨hn, hc, ho, hs, right_shape hs h4 h5 h1.1 h6, h4, h5, h1.1, h1.2, hs.1⟩

/-! ### Together it is what was booked -/
def sumI : List Int → Int
  | [] => 0
  | x :: l => x + sumI l
def sumM (l : List R3) : Int := sumI (l.map (·.m))
theorem sumI_app (a b : List Int) : sumI (a ++ b) = sumI a + sumI b := by
  induction a with
  | nil => simp [sumI]
  | cons x a ih => rw [List.cons_append, sumI, sumI, ih]; omega
theorem sumI_set : ∀ {l : List Int} {i : Nat} {v u : Int}, l[i]? = some v → sumI (l.set i u) = sumI l - v + u
  | [], i, v, u, h => by simp at h
  | x :: l, 0, v, u, h => by simp at h; subst h; rw [List.set_cons_zero, sumI, sumI]; omega
  | x :: l, i + 1, v, u, h => by rw [List.set_cons_succ, sumI, sumI, sumI_set (by simpa using h)]; omega
theorem sumI_take {l : List Int} {k : Nat} {v : Int} (h : l[k]? = some v) : sumI (l.take (k + 1)) = sumI (l.take k) + v := by rw [take_of h, sumI_app]; simp [sumI]
theorem sumI_bd {B : Int} : ∀ {l : List Int}, (∀ v ∈ l, 0 ≤ v ∧ v ≤ B) → 0 ≤ sumI l ∧ sumI l ≤ l.length * B
  | [], _ => by simp [sumI]
  | x :: l, h => by
    have h1 := h x (by simp)
    have h2 := sumI_bd (l := l) (fun v hv => h v (by simp [hv]))
    rw [sumI, List.length_cons]
    have : ((l.length + 1 : Nat) : Int) * B = l.length * B + B := by rw [Int.natCast_add, Int.add_mul]; simp
    omega
theorem last_more {dev amt : Int} {r : List Int} (h0 : 0 ≤ dev) (h : dev < r.length) : lastI (moreL dev amt r) = lastI r + amt := by
  have hp : 0 < r.length := by omega
  obtain ⟨v, hv⟩ := get_of (l := r) (k := r.length - 1) (by omega)
  rw [lastI, lastI, List.getLast?_eq_getElem?, List.getLast?_eq_getElem?, moreL_len, moreL_get hv, hv]
  simp only [Option.getD_some, moreF]
  rw [if_pos (by omega)]
theorem diag_all {f : Int} {n : Nat} : ∀ {l : List R3} {c c' : List (List Int)}, Shape n c → (∀ x ∈ l, Fits f n x) → putAll f c l = some c' → sumI (c'.map lastI) = sumI (c.map lastI) + sumM l
  | [], c, c', _, _, h => by simp [putAll] at h; subst h; simp [sumM, sumI]
  | x :: l, c, c', hs, hf, h => by
    rw [putAll] at h
    split at h
    · rename_i hc
      obtain ⟨_, h2, h3, h4, h5, _⟩ := hf x (by simp)
      have := diag_all (shape_step hs h5 hc) (fun y hy => hf y (by simp [hy])) h
      obtain ⟨r, hr⟩ := get_of (l := c) (k := idxO f x) (by rw [hs.1]; exact h2)
      have hl := (hs.2 _ _ hr).1
      have er : rowO f c x = moreL (devO x) x.m r := by rw [rowO, List.getD_eq_getElem?_getD, hr]; rfl
      rw [this, List.map_set, er, last_more h3 (by omega), sumI_set (v := lastI r) (by rw [List.getElem?_map, hr]; rfl), sumM, sumM, List.map_cons, sumI]
      omega
    · cases h
theorem diag_zero (n : Nat) : sumI ((zerosT n).map lastI) = 0 := by
  have : ∀ v ∈ (zerosT n).map lastI, 0 ≤ v ∧ v ≤ 0 := by
    intro v hv
    obtain ⟨r, hr, rfl⟩ := List.mem_map.1 hv
    obtain ⟨i, hi⟩ := List.mem_iff_getElem?.1 hr
    have hlt := lt_of_get hi
    rw [zerosT_len] at hlt
    rw [zerosT_get hlt] at hi
    cases hi
    rw [lastI, List.getLast?_eq_getElem?, List.getElem?_replicate]
    split <;> simp
  have := sumI_bd this
  omega
theorem diag_sum {l : List R3} (h : ofE l = 0) : sumI (diagL (fromL l) (ofC l)) = sumM l := by
  obtain ⟨hn, hc, ho, hs, hr, _⟩ := made h
  rw [diagL, if_pos hr, diag_all (shape_zeros _) (fun x hx => fits_all hc hn hx) ho, diag_zero]
  omega
theorem diag_bd {f : Int} {c : List (List Int)} {v : Int} (h : v ∈ diagL f c) : 0 ≤ v ∧ v ≤ 100000000000000000 := by
  unfold diagL at h
  split at h
  · rename_i hr
    obtain ⟨r, hm, rfl⟩ := List.mem_map.1 h
    obtain ⟨i, hi⟩ := List.mem_iff_getElem?.1 hm
    obtain ⟨h1, h2⟩ := right_row hr hi
    have := lt_of_get hi
    obtain ⟨v, hv⟩ := get_of (l := r) (k := r.length - 1) (by omega)
    rw [lastI, List.getLast?_eq_getElem?, hv]
    exact h2 v (List.mem_of_getElem? hv)
  · simp at h

/-! ### No row falls -/
def Rising (l : List Int) : Prop := ∀ (k : Nat) (v u : Int), l[k]? = some v → l[k + 1]? = some u → v ≤ u
theorem rising_more {dev amt : Int} {l : List Int} (ha : 0 ≤ amt) (h : Rising l) : Rising (moreL dev amt l) := by
  intro k v u hv hu
  have h1 := lt_of_get hv
  have h2 := lt_of_get hu
  rw [moreL_len] at h1 h2
  obtain ⟨v0, hv0⟩ := get_of h1
  obtain ⟨u0, hu0⟩ := get_of h2
  rw [moreL_get hv0] at hv
  rw [moreL_get hu0] at hu
  cases hv; cases hu
  have := h k v0 u0 hv0 hu0
  unfold moreF
  split <;> split <;> omega
theorem rising_all {f : Int} : ∀ {l : List R3} {c c' : List (List Int)}, (∀ x ∈ l, 0 ≤ x.m) → (∀ r ∈ c, Rising r) → putAll f c l = some c' → ∀ r ∈ c', Rising r
  | [], c, c', _, hr, h => by simp [putAll] at h; subst h; exact hr
  | x :: l, c, c', hm, hr, h => by
    rw [putAll] at h
    split at h
    · refine rising_all (fun y hy => hm y (by simp [hy])) (fun r hrm => ?_) h
      rcases List.mem_or_eq_of_mem_set hrm with h1 | h1
      · exact hr r h1
      · subst h1
        refine rising_more (hm x (by simp)) ?_
        rw [List.getD_eq_getElem?_getD]
        cases hx : c[idxO f x]? with
        | none => intro k v u hv; simp at hv
        | some r => exact hr r (List.mem_of_getElem? hx)
    · cases h
theorem rising_made {l : List R3} (h : ofE l = 0) : ∀ r ∈ ofC l, Rising r := by
  obtain ⟨hn, hc, ho, _⟩ := made h
  refine rising_all (fun x hx => (fits_all hc hn hx).2.2.2.2.1) (fun r hr => ?_) ho
  obtain ⟨i, hi⟩ := List.mem_iff_getElem?.1 hr
  have hlt := lt_of_get hi
  rw [zerosT_len] at hlt
  rw [zerosT_get hlt] at hi
  cases hi
  intro k v u hv hu
  rw [List.getElem?_replicate] at hv hu
  split at hv <;> split at hu <;> simp_all
end Go.Proofs.YtmfohnchnbgbaaaGreat
