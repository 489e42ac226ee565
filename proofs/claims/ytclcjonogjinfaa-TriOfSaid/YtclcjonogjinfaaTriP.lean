/- The program lives: three rows, of two years. -/
import Derived.Test.YtclcjonogjinfaaTriO
namespace Go.Proofs.Ytclcjonogjinfaa
open Go.RowKit

theorem put_any (f : Int) (A : Option Addr) (cap : Nat) (M : List Rw) (y dev amt : Int) (w : World) (hs : MV w A M.length cap M) (hf : ok64 f) :
    Calls Try.prog 20 #[.agg #[.int .i64 f, .slice A M.length cap], .int .i64 y, .int .i64 dev, .int .i64 amt] w (PutN w f (putR f (allM M) y dev amt) (putE f (allM M) y dev amt)) := by
  by_cases h : putE f (allM M) y dev amt = 1
  · have := put_no f A cap M y dev amt w hs hf h
    rw [h]; exact this
  · exact put_yes f A cap M y dev amt w hs hf h
theorem PutN.yes {w w' : World} {f : Int} {c : List (List Int)} {e : Ending} (h : PutN w f c 0 e w') : Below w.heap.size w w' ∧ ∃ A' c' R, e = .returned (.tuple #[.agg #[.int .i64 f, .slice A' R.length c'], .int .i64 0]) ∧ MV w' A' R.length c' R ∧ allM R = c ∧ FreshT w A' R := by
  obtain ⟨h1, ⟨h2, _⟩ | ⟨_, h2⟩⟩ := h
  · exact absurd rfl h2
  · exact ⟨h1, h2⟩
theorem PutN.no {w w' : World} {f code : Int} {c : List (List Int)} {e : Ending} (h : PutN w f c code e w') (hc : code ≠ 0) : Below w.heap.size w w' ∧ e = .returned (.tuple #[.agg #[.int .i64 0, .slice none 0 0], .int .i64 code]) := by
  obtain ⟨h1, ⟨_, h2⟩ | ⟨h3, _⟩⟩ := h
  · exact ⟨h1, h2⟩
  · exact absurd h3 hc
theorem ok_rows3 (l : List R3) : RowsOk 3 (l.map enc3) := by
  intro r hr
  obtain ⟨x, _, rfl⟩ := List.mem_map.1 hr
  refine ⟨rfl, fun u hu => ?_⟩
  simp [enc3] at hu
  rcases hu with rfl | rfl | rfl <;> rfl
def lit3 : List R3 := [⟨146000, 146000, 5⟩, ⟨146000, 146200, 3⟩, ⟨146200, 146200, 7⟩]
theorem lit3_e : ofE lit3 = 0 := by decide
theorem lit3_f : fromL lit3 = 2000 := by decide
theorem lit3_c : ofC lit3 = [[5, 8], [7]] := by decide
theorem lit1_e : ofE [⟨9, 8, 1⟩] = 4 := by decide
theorem litP_e : putE 2000 [[5, 8], [7]] 2000 0 10 = 0 := by decide
theorem litP_c : putR 2000 [[5, 8], [7]] 2000 0 10 = [[15, 18], [7]] := by decide
theorem litQ_e : putE 2000 [[5, 8], [7]] 2002 0 1 = 1 := by decide
theorem litD : diagL 2000 [[5, 8], [7]] = [8, 7] := by decide
theorem litR : rightC 2000 [[5, 8], [7]] = true := by decide
theorem litR0 : rightC 0 [] = false := by decide
theorem sv_nil (w : World) (sz : Nat) : SV w sz none 0 0 [] := ⟨Sl.nil_, rfl, Nat.le_refl _, by simp [maxLen], fun _ => rfl⟩
theorem lit_sv (w : World) (l : List R3) (hm : l.length ≤ 1000) (cs : Array Value) (hcs : cs.toList = (l.map enc3).flatten) : SV (w.alloc (.cells cs 36)) 3 (some ⟨w.heap.size, 0, none⟩) l.length l.length (l.map enc3) := by
  have h := (OwnS.lit w (B := 0) (Nat.zero_le _) 36 (l.map enc3) (ok_rows3 l) (by simp [maxLen]; omega) cs hcs).sv
  rwa [List.length_map] at h
theorem lit_ints (w : World) (l : List Int) (hm : l.length ≤ 1000) (cs : Array Value) (hcs : cs.toList = (l.map encI).flatten) : SV (w.alloc (.cells cs 3)) 1 (some ⟨w.heap.size, 0, none⟩) l.length l.length (l.map encI) := by
  have h := (OwnS.lit w (B := 0) (Nat.zero_le _) 3 (l.map encI) (okI l) (by simp [maxLen]; omega) cs hcs).sv
  rwa [List.length_map] at h

theorem ok2000 : ok64 2000 := by unfold ok64; omega
theorem ok0 : ok64 0 := by unfold ok64; omega
/-- What lies there while the program is tried. -/
structure Liv (w : World) (X Y : Nat) (A Ad Au A1 A2 U1 U2 : Option Addr) (c cd cu c1 c2 e1 e2 : Nat) (wx : World) : Prop where
  x : Blk wx X 24 #[.int .i64 2000, .slice A 2 c]
  y : Blk wx Y 24 #[.int .i64 2000, .slice Au 2 cu]
  m : MV wx A 2 c [⟨A1, [5, 8], c1⟩, ⟨A2, [7], c2⟩]
  u : MV wx Au 2 cu [⟨U1, [15, 18], e1⟩, ⟨U2, [7], e2⟩]
  d : SV wx 1 Ad 2 cd ([8, 7].map encI)
  bel : Below w.heap.size w wx
theorem Liv.below {w : World} {X Y : Nat} {A Ad Au A1 A2 U1 U2 : Option Addr} {c cd cu c1 c2 e1 e2 : Nat} {wx wy : World} (h : Liv w X Y A Ad Au A1 A2 U1 U2 c cd cu c1 c2 e1 e2 wx) (hb : Below wx.heap.size wx wy) : Liv w X Y A Ad Au A1 A2 U1 U2 c cd cu c1 c2 e1 e2 wy :=
  ⟨h.x.below hb h.x.lt, h.y.below hb h.y.lt, h.m.below hb, h.u.below hb, h.d.below hb, chain h.bel hb⟩

set_option maxRecDepth 100000 in
set_option maxHeartbeats 4000000 in
theorem alive_any (w : World) : Calls Try.prog 10 #[] w fun e w' => e = .returned (.bool true) ∧ Below w.heap.size w w' := by
  go_enter Try.func10, Try.ntmps10
  go_wp2_with fail
  have h0 := of_any _ _ lit3 _ (lit_sv w lit3 (by decide) #[.int .i64 146000, .int .i64 146000, .int .i64 5, .int .i64 146000, .int .i64 146200, .int .i64 3, .int .i64 146200, .int .i64 146200, .int .i64 7] rfl)
  rw [lit3_e, lit3_f, lit3_c] at h0
  refine h0.mono ?_
  clear h0
  intro e w1 hp
  obtain ⟨hb1, A, c, R, rfl, hMV, hR, _⟩ := hp.yes
  match R, hR with
  | [⟨A1, [5, 8], c1⟩, ⟨A2, [7], c2⟩], _ =>
  have h1 : Below w.heap.size w w1 := chain1 hb1
  clear hp hb1
  have HM := hide hMV
  clear hMV hR
  go_wp2_with fail
  -- the last cells
  have hA1 := diag_any 2000 A c [⟨A1, [5, 8], c1⟩, ⟨A2, [7], c2⟩] (w1.alloc (.cells #[.int .i64 2000, .slice A 2 c] 24)) (HM.out.below ((Below.refl _ _).alloc (Nat.le_refl _) _)) ok2000
  rw [show allM [⟨A1, [5, 8], c1⟩, ⟨A2, [7], c2⟩] = [[5, 8], [7]] from rfl, litD] at hA1
  refine hA1.mono ?_
  clear hA1
  rintro e w2 ⟨Ad, cd, rfl, hD, hb2⟩
  have hX := Blk.below (Blk.new w1 24 #[.int .i64 2000, .slice A 2 c]) hb2 (by simp)
  have h2 : Below w1.heap.size w1 w2 := chain1 hb2
  obtain ⟨X, hXe⟩ : ∃ X, w1.heap.size = X := ⟨_, rfl⟩
  rw [hXe] at hX ⊢
  have hX0 := hX.cell 0
  have hX1 := hX.cell 1
  simp at hX0 hX1
  have HM2 := hide (HM.out.below h2)
  have HW2 := hide (chain h1 h2)
  have HD := hide hD
  have HX := hide hX
  clear HM h1 hb2 hXe hD hX h2
  go_wp2_with fail
  -- an amount put
  have hA1 := put_any 2000 A c [⟨A1, [5, 8], c1⟩, ⟨A2, [7], c2⟩] 2000 0 10 w2 HM2.out ok2000
  rw [show allM [⟨A1, [5, 8], c1⟩, ⟨A2, [7], c2⟩] = [[5, 8], [7]] from rfl, litP_e, litP_c] at hA1
  refine hA1.mono ?_
  clear hA1
  intro e w3 hp
  obtain ⟨hb3, Au, cu, Ru, rfl, hMU, hRu, _⟩ := hp.yes
  match Ru, hRu with
  | [⟨U1, [15, 18], e1⟩, ⟨U2, [7], e2⟩], _ =>
  have HX3 := hide (HX.out.below hb3 HX.out.lt)
  have hX0 := HX3.out.cell 0
  have hX1 := HX3.out.cell 1
  simp at hX0 hX1
  have HM3 := hide (HM2.out.below hb3)
  have HD3 := hide (HD.out.below hb3)
  have HW3 := hide (chain HW2.out hb3)
  have HU3 := hide hMU
  have hXl := HX3.out.lt
  clear hp hb3 hMU hRu HM2 HX HD HW2
  go_wp2_with fail
  -- no rows
  have hA1 := of_any none 0 [] (w3.alloc (.cells #[.int .i64 2000, .slice Au 2 cu] 24)) (sv_nil _ 3)
  rw [ofE_nil] at hA1
  refine hA1.mono ?_
  clear hA1
  intro e w4 hp
  obtain ⟨hb4, rfl⟩ := hp.no (by decide)
  have hb43 : Below w3.heap.size w3 w4 := chain1 hb4
  have hL : Liv w X w3.heap.size A Ad Au A1 A2 U1 U2 c cd cu c1 c2 e1 e2 w4 :=
    ⟨HX3.out.below hb43 hXl, Blk.below (Blk.new w3 24 #[.int .i64 2000, .slice Au 2 cu]) hb4 (by simp), HM3.out.below hb43, HU3.out.below hb43, HD3.out.below hb43, chain HW3.out hb43⟩
  obtain ⟨Y, hYe⟩ : ∃ Y, w3.heap.size = Y := ⟨_, rfl⟩
  rw [hYe] at hL ⊢
  have hX0 := hL.x.cell 0
  have hX1 := hL.x.cell 1
  simp at hX0 hX1
  have hXl := hL.x.lt
  have HL := hide hL
  clear hp hb4 hb43 hYe hL HX3 HM3 HU3 HD3 HW3
  go_wp2_with fail
  -- out of order
  have hsv := lit_sv (w4.alloc (.cells #[.int .i64 0, .slice none 0 0] 24)) [⟨9, 8, 1⟩] (by decide) #[.int .i64 9, .int .i64 8, .int .i64 1] rfl
  simp only [World.size_alloc] at hsv
  have hA1 := of_any _ _ [⟨9, 8, 1⟩] _ hsv
  rw [lit1_e] at hA1
  refine hA1.mono ?_
  clear hA1 hsv
  intro e w5 hp
  obtain ⟨hb5, rfl⟩ := hp.no (by decide)
  have HL5 := hide (HL.out.below (chain (((Below.refl _ _).alloc (Nat.le_refl _) _).alloc (by simp) _) hb5))
  have hX0 := HL5.out.x.cell 0
  have hX1 := HL5.out.x.cell 1
  simp at hX0 hX1
  have hXl := HL5.out.x.lt
  clear hp hb5 HL
  go_wp2_with fail
  -- beyond its years
  have hA1 := put_any 2000 A c [⟨A1, [5, 8], c1⟩, ⟨A2, [7], c2⟩] 2002 0 1 (w5.alloc (.cells #[.int .i64 0, .slice none 0 0] 24)) (HL5.out.below ((Below.refl _ _).alloc (Nat.le_refl _) _)).m ok2000
  rw [show allM [⟨A1, [5, 8], c1⟩, ⟨A2, [7], c2⟩] = [[5, 8], [7]] from rfl, litQ_e] at hA1
  refine hA1.mono ?_
  clear hA1
  intro e w6 hp
  obtain ⟨hb6, rfl⟩ := hp.no (by decide)
  have hL6 := HL5.out.below (chain ((Below.refl _ _).alloc (Nat.le_refl _) _) hb6)
  have hX0 := hL6.x.cell 0
  have hX1 := hL6.x.cell 1
  have hY0 := hL6.y.cell 0
  have hY1 := hL6.y.cell 1
  simp at hX0 hX1 hY0 hY1
  have hXl := hL6.x.lt
  have hYl := hL6.y.lt
  obtain ⟨b1, o1, rfl, hl1, q1⟩ := hL6.m.sv.sl.rw (k := 0) rfl
  obtain ⟨b2, o2, h2, hl2, q2⟩ := (hL6.m.rows _ (List.mem_cons_self ..)).sl.i (k := 1) rfl
  obtain ⟨b3, o3, rfl, hl3, q3⟩ := hL6.u.sv.sl.rw (k := 0) rfl
  obtain ⟨b4, o4, h4, hl4, q4⟩ := (hL6.u.rows _ (List.mem_cons_self ..)).sl.i (k := 0) rfl
  simp only at h2 h4
  subst h2 h4
  simp at q1 q2 q3 q4
  have HL6 := hide hL6
  clear hp hb6 hL6 HL5
  go_wp2_with fail
  -- the same list
  have hli := lit_ints (w6.alloc (.cells #[.int .i64 0, .slice none 0 0] 24)) [8, 7] (by decide) #[.int .i64 8, .int .i64 7] rfl
  simp only [World.size_alloc] at hli
  refine (sameI_any Ad _ 2 cd 2 [8, 7] _ (HL6.out.below (((Below.refl _ _).alloc (Nat.le_refl _) _).alloc (by simp) _)).d hli (by decide)).mono ?_
  clear hli
  rintro e w7 ⟨rfl, hb7⟩
  have hL7 := HL6.out.below (chain (((Below.refl _ _).alloc (Nat.le_refl _) _).alloc (by simp) _) hb7)
  have hX0 := hL7.x.cell 0
  have hX1 := hL7.x.cell 1
  have hY0 := hL7.y.cell 0
  have hY1 := hL7.y.cell 1
  simp at hX0 hX1 hY0 hY1
  obtain ⟨b1', o1', he, hl1, q1⟩ := hL7.m.sv.sl.rw (k := 0) rfl
  cases he
  obtain ⟨b3', o3', he, hl3, q3⟩ := hL7.u.sv.sl.rw (k := 0) rfl
  cases he
  obtain ⟨b4', o4', he, hl4, q4⟩ := (hL7.u.rows _ (List.mem_cons_self ..)).sl.i (k := 0) rfl
  cases he
  simp at q1 q3 q4
  have HL7 := hide hL7
  clear hb7 hL7 HL6
  go_wp2_with fail
  -- it may be
  have hA1 := right_any 2000 (some ⟨b1, o1, none⟩) c [⟨some ⟨b2, o2, none⟩, [5, 8], c1⟩, ⟨A2, [7], c2⟩] w7 HL7.out.m ok2000
  rw [show allM [⟨some ⟨b2, o2, none⟩, [5, 8], c1⟩, ⟨A2, [7], c2⟩] = [[5, 8], [7]] from rfl, litR] at hA1
  refine hA1.mono ?_
  clear hA1
  rintro e w8 ⟨rfl, hb8⟩
  have HL8 := hide (HL7.out.below hb8)
  clear hb8 HL7
  go_wp2_with fail
  have hA1 := right_any 0 none 0 [] w8 ⟨sv_nil _ 1, fun r hr => by simp at hr⟩ ok0
  rw [show allM [] = [] from rfl, litR0] at hA1
  refine hA1.mono ?_
  clear hA1
  rintro e w9 ⟨rfl, hb9⟩
  have HL9 := hide (HL8.out.below hb9)
  clear hb9 HL8
  go_wp2_with fail
  go_ret
  exact ⟨rfl, HL9.out.bel⟩
end Go.Proofs.Ytclcjonogjinfaa
