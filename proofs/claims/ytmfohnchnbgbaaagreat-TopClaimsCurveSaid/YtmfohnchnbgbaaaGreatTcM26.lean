/- Part 26 of the proof. -/
import Derived.Test.YtmfohnchnbgbaaaGreatTcM23
/- How files of a cover stand: the walk of adjust.Of. -/
namespace Go.Proofs.YtmfohnchnbgbaaaGreat
open Go.RowKit Go.Lib
set_option linter.unusedSimpArgs false

/-- How a claim stands. -/
structure Ps where
  g : Int
  s : Int
  p : Int
  b : Int
  r : Int
  o : Bool
def encPs (x : Ps) : List Value := [.int .i64 x.g, .int .i64 x.s, .int .i64 x.p, .int .i64 x.b, .int .i64 x.r, .bool x.o]
theorem elPs : ElT Tryz.prog 30 42 6 48 := ElT.mk' (z := .agg #[.int .i64 0, .int .i64 0, .int .i64 0, .int .i64 0, .int .i64 0, .bool false]) Tryz.underlying30 (by kernel_rfl) rfl (by omega)
theorem okPs (l : List Ps) : RowsOk 6 (l.map encPs) := by
  intro r hr
  obtain ⟨x, _, rfl⟩ := List.mem_map.1 hr
  exact ⟨rfl, fun u hu => by simp [encPs] at hu; rcases hu with rfl | rfl | rfl | rfl | rfl | rfl <;> rfl⟩
theorem Sl.ps {w : World} {B k : Nat} {A : Option Addr} {M : List Ps} {x : Ps} (h : Sl w B 6 A (M.map encPs)) (hx : M[k]? = some x) :
    ∃ b off, A = some ⟨b, off, none⟩ ∧ b < B ∧ w.cell? ⟨b, off + k * 6, none⟩ = some (.int .i64 x.g) ∧ w.cell? ⟨b, off + k * 6 + 1, none⟩ = some (.int .i64 x.s) ∧ w.cell? ⟨b, off + k * 6 + 2, none⟩ = some (.int .i64 x.p) ∧ w.cell? ⟨b, off + k * 6 + 3, none⟩ = some (.int .i64 x.b) ∧ w.cell? ⟨b, off + k * 6 + 4, none⟩ = some (.int .i64 x.r) ∧ w.cell? ⟨b, off + k * 6 + 5, none⟩ = some (.bool x.o) := by
  obtain ⟨b, off, hA, hb, hc⟩ := h k (encPs x) (by simp [hx])
  exact ⟨b, off, hA, hb, by simpa using hc 0 _ rfl, hc 1 _ rfl, hc 2 _ rfl, hc 3 _ rfl, hc 4 _ rfl, hc 5 _ rfl⟩
/-- A file as it stands by its acts. -/
def psOf (x : Fl) : Ps := ⟨max (standP x.l).g (standP x.l).s, (standP x.l).s, 0, (standP x.l).b, 0, (standP x.l).o⟩
/-- What holds of the positions: of each file what it was paid. -/
structure OfI (L : List Fl) (P : List Ps) (pd : Nat → Int) : Prop where
  len : P.length = L.length
  pd : ∀ (k : Nat) (y : Ps), P[k]? = some y → y.p = pd k
  gr : ∀ (k : Nat) (y : Ps), P[k]? = some y → ∃ x, L[k]? = some x ∧ y.g = (psOf x).g ∧ y.s = (psOf x).s ∧ y.b = (psOf x).b ∧ y.o = (psOf x).o
/-- What is held for the first t files, one behind the other: the positions and what is used by then. -/
noncomputable def heldN (c : Cv) (P : List Ps) (S : Int) : Nat → List Ps × Int
  | 0 => (P, S)
  | t + 1 => match (heldN c P S t).1[t]? with
    | some y => if y.o = true then ((heldN c P S t).1.set t { y with r := max 0 (paysQ c y.g ((heldN c P S t).2 - y.p) - y.p) }, (heldN c P S t).2 + max 0 (paysQ c y.g ((heldN c P S t).2 - y.p) - y.p)) else heldN c P S t
    | none => heldN c P S t
theorem heldN_on {c : Cv} {P P3 : List Ps} {S U : Int} {t : Nat} {y : Ps} (h : heldN c P S t = (P3, U)) (hy : P3[t]? = some y) (ho : y.o = true) :
    heldN c P S (t + 1) = (P3.set t { y with r := max 0 (paysQ c y.g (U - y.p) - y.p) }, U + max 0 (paysQ c y.g (U - y.p) - y.p)) := by
  rw [heldN, h]
  simp only
  rw [hy]
  simp only
  rw [if_pos ho]
theorem heldN_off {c : Cv} {P P3 : List Ps} {S U : Int} {t : Nat} {y : Ps} (h : heldN c P S t = (P3, U)) (hy : P3[t]? = some y) (ho : y.o = false) : heldN c P S (t + 1) = (P3, U) := by
  rw [heldN, h]
  simp only
  rw [hy]
  simp only
  rw [if_neg (by rw [ho]; simp)]
def OfP (c : Cv) (L : List Fl) (w : World) (e : Ending) (w' : World) : Prop :=
  Below w.heap.size w w' ∧ ((checkQ c L ≠ 0 ∧ e = .returned (.tuple #[.slice none 0 0, .int .i64 (checkQ c L)])) ∨ (checkQ c L = 0 ∧ ∃ (A : Option Addr) (cap : Nat) (P : List Ps), e = .returned (.tuple #[.slice A L.length cap, .int .i64 0]) ∧ SV w' 6 A L.length cap (P.map encPs) ∧ OfI L P (fun k => byF k (paidS c L).out) ∧ ∃ P0 : List Ps, OfI L P0 (fun k => byF k (paidS c L).out) ∧ (heldN c P0 ((paidS c L).out.map (·.m)).sum L.length).1 = P))
theorem byF_take {l : List R3} {i : Nat} {x : R3} (h : l[i]? = some x) (f : Nat) : byF f (l.take (i + 1)) = byF f (l.take i) + if x.a = (f : Int) then x.m else 0 := by rw [take_of h, byF_snoc]
theorem byF_le {l : List R3} (h : ∀ r ∈ l, 0 < r.m) (f : Nat) : 0 ≤ byF f l ∧ byF f l ≤ (l.map (·.m)).sum := by
  induction l with
  | nil => simp [byF]
  | cons a r ih =>
    have h1 := ih fun x hx => h x (by simp [hx])
    have h2 := h a (by simp)
    have e : byF f (a :: r) = (if a.a = (f : Int) then a.m else 0) + byF f r := by
      unfold byF
      by_cases hc : a.a = (f : Int) <;> simp [hc]
    rw [e, List.map_cons, List.sum_cons]
    split <;> omega
theorem sum_take_le {l : List R3} (h : ∀ r ∈ l, 0 < r.m) (j : Nat) : 0 ≤ ((l.take j).map (·.m)).sum ∧ ((l.take j).map (·.m)).sum ≤ (l.map (·.m)).sum := by
  have h1 : ∀ q : List R3, (∀ r ∈ q, 0 < r.m) → 0 ≤ (q.map (·.m)).sum := fun q hq => Int.le_trans (byF_le hq 0).1 (byF_le hq 0).2
  have h2 := h1 (l.take j) fun r hr => h r (List.mem_of_mem_take hr)
  have h3 := h1 (l.drop j) fun r hr => h r (List.mem_of_mem_drop hr)
  refine ⟨h2, ?_⟩
  conv => rhs; rw [← List.take_append_drop j l, List.map_append, List.sum_append]
  omega
theorem OfI.put {L : List Fl} {P : List Ps} {pd pd' : Nat → Int} {f : Nat} {y : Ps} (h : OfI L P pd) (hy : P[f]? = some y) (u : Int) (h1 : pd' f = u) (h2 : ∀ k, k ≠ f → pd' k = pd k) : OfI L (P.set f { y with p := u }) pd' := by
  have hlt := lt_of_get hy
  refine ⟨by rw [List.length_set]; exact h.len, fun k z hz => ?_, fun k z hz => ?_⟩
  · by_cases hk : k = f
    · subst hk
      rw [List.getElem?_set_self hlt] at hz; cases hz; exact h1.symm
    · rw [List.getElem?_set_ne (Ne.symm hk)] at hz
      rw [h2 k hk]; exact h.pd k z hz
  · by_cases hk : k = f
    · subst hk
      rw [List.getElem?_set_self hlt] at hz; cases hz
      exact h.gr k y hy
    · rw [List.getElem?_set_ne (Ne.symm hk)] at hz
      exact h.gr k z hz
theorem OfI.res {L : List Fl} {P : List Ps} {pd : Nat → Int} {f : Nat} {y : Ps} (h : OfI L P pd) (hy : P[f]? = some y) (u : Int) : OfI L (P.set f { y with r := u }) pd := by
  have hlt := lt_of_get hy
  refine ⟨by rw [List.length_set]; exact h.len, fun k z hz => ?_, fun k z hz => ?_⟩
  · by_cases hk : k = f
    · subst hk
      rw [List.getElem?_set_self hlt] at hz; cases hz; exact h.pd k y hy
    · rw [List.getElem?_set_ne (Ne.symm hk)] at hz
      exact h.pd k z hz
  · by_cases hk : k = f
    · subst hk
      rw [List.getElem?_set_self hlt] at hz; cases hz
      exact h.gr k y hy
    · rw [List.getElem?_set_ne (Ne.symm hk)] at hz
      exact h.gr k z hz
theorem stand_bd : ∀ (n : Nat) (l : List Ac), l.length = n → (∀ a ∈ l, a.m ≤ 1000000000000000) → (standP l).g ≤ 1000000000000000 ∧ (standP l).s ≤ 9223372036854775807
  | 0, l, hl, _ => by
    rw [List.eq_nil_of_length_eq_zero hl]
    simp [standP]
  | n + 1, l, hl, h => by
    rcases nil_or_snoc l with rfl | ⟨r, a, rfl⟩
    · simp at hl
    · obtain ⟨h1, h2⟩ := stand_bd n r (by simpa using hl) (fun x hx => h x (by simp [hx]))
      have h3 := h a (by simp)
      rw [standP_snoc]
      unfold stepP
      have hw : ∀ z : Int, wrap64 z ≤ 9223372036854775807 := fun z => by unfold wrap64; omega
      split
      · exact ⟨h3, h2⟩
      · split
        · exact ⟨h1, hw _⟩
        · split
          · exact ⟨h1, h2⟩
          · split
            · exact ⟨h1, h2⟩
            · split <;> exact ⟨h1, h2⟩
theorem psOf_bd {c : Cv} {L : List Fl} (hr : rightF c L = true) {x : Fl} (hx : x ∈ L) : (psOf x).g ≤ 9223372036854775807 := by
  have h3 := ((right_file hr).2 x hx).2.2
  obtain ⟨h1, h2⟩ := stand_bd _ x.l rfl (fun a ha => by
    obtain ⟨j, hj⟩ := List.mem_iff_getElem?.1 ha
    exact (right_parts (putC_zero (madeB_at h3 hj)).1).2.2.2.2.2.1)
  show max (standP x.l).g (standP x.l).s ≤ _
  omega
set_option maxRecDepth 100000 in
set_option maxHeartbeats 8000000 in
theorem ofF_any (c : Cv) (A : Option Addr) (n cap : Nat) (L : List Fl) (w : World) (ho : okCv c) (hv : FV w A n cap L) (hn1 : n ≤ 1000) :
    Calls Tryz.prog 10 #[.agg #[.int .i64 c.p, .int .i64 c.lim, .int .i64 c.agg, .int .i64 c.ded, .int .i64 c.sh], .slice A n cap] w (OfP c L w) := by
  have hn := hv.len
  have hle := hv.sv.le
  have hmo := hv.sv.most
  unfold maxLen at hmo
  obtain ⟨w1, hw1⟩ : ∃ W, w.alloc (.cells (cvC c) 23) = W := ⟨_, rfl⟩
  have h01 : Below w.heap.size w w1 := by rw [← hw1]; exact (Below.refl _ _).alloc (Nat.le_refl _) _
  have HB := hide (show Blk w1 w.heap.size 23 (cvC c) by rw [← hw1]; exact Blk.new _ _ _)
  obtain ⟨x0, x1, x2, x3, x4⟩ := cv_cells HB.out
  have HV := hide (hv.below h01)
  have H1 := hide h01
  have HW := hide hw1
  have HN := hide hn
  have HOK := hide ho
  have HP := hide (paid_any c A n cap L w1 ho (hv.below h01) hn1)
  clear hw1 h01 hv ho hn
  go_enter Tryz.func10, Tryz.ntmps10
  go_upto_region 1 with fail
  rw [show w.alloc (.cells #[.int .i64 c.p, .int .i64 c.lim, .int .i64 c.agg, .int .i64 c.ded, .int .i64 c.sh] 23) = w1 from HW.out]
  go_wp2_with fail
  refine HP.out.mono ?_
  rintro e w2 ⟨h2, hr⟩
  have H2 := hide (chain H1.out h2)
  have HV2 := hide (HV.out.below h2)
  have HB2 := hide (HB.out.below h2 HB.out.lt)
  clear h2 x0 x1 x2 x3 x4
  rcases hr with ⟨hne, rfl⟩ | ⟨hE, AR, capR, rfl, hsr⟩
  · obtain ⟨E, hE⟩ : ∃ E, checkQ c L = E := ⟨_, rfl⟩
    have HE := hide (show OfP c L w (.returned (.tuple #[.slice none 0 0, .int .i64 E])) w2 from ⟨H2.out, .inl ⟨hne, by rw [hE]⟩⟩)
    rw [hE] at hne ⊢
    have hq : (E != 0) = true := by simpa using hne
    clear hne hE
    go_wp2_with fail
    go_ret2
    exact HE.out
  have HE := hide hE
  have HRF := hide (check_zero hE).1
  have HSR := hide hsr
  have hinv := paid_inv (check_zero hE).1
  have HIN := hide hinv
  have hac := (check_zero hE).2.2
  obtain ⟨O, hO⟩ : ∃ O, (paidS c L).out = O := ⟨_, rfl⟩
  obtain ⟨m, hm⟩ : ∃ m, O.length = m := ⟨_, rfl⟩
  have hol := hinv.ol
  rw [hO] at HSR hol ⊢
  rw [hm] at HSR hol ⊢
  have hm2 : m ≤ 2000 := by omega
  have HO := hide hO
  have HM := hide hm
  clear hE hsr hinv hac hO hm hol
  go_wp2_with fail
  go_loopw [8, 28] (fun q8 q28 wr => ∃ (i : Nat) (A5 : Option Addr) (cap5 : Nat), i ≤ n ∧ q28 = .int .i64 i ∧ q8 = .slice A5 i cap5 ∧ OwnS wr w2.heap.size 42 6 A5 i cap5 (((L.take i).map psOf).map encPs) ∧ Below w2.heap.size w2 wr) (fun _ q _ => n - (RowKit.intOf q).toNat)
  case atStart => exact ⟨0, none, 0, Nat.zero_le _, rfl, rfl, OwnS.nil_ _ _ _ _, Below.refl _ _⟩
  case round =>
    obtain ⟨i, A5, cap5, hi, rfl, rfl, ho, hb⟩ := hrel
    have HOW := hide ho
    have HBE := hide hb
    have hsz2 : w2.heap.size ≤ wr.heap.size := hb.size
    by_cases hlt : i < n
    · obtain ⟨x, hx⟩ := get_of (l := L) (k := i) (by rw [HN.out]; exact hlt)
      obtain ⟨bb, off, hA, hbl, c0, c1, c2, c3, c4, c5, c6⟩ := (HV2.out.below hb).sv.sl.fl hx
      have hi0 : (0 : Int) ≤ (i : Int) := by omega
      have hi1 : (i : Int) < (n : Int) := by omega
      have HX := hide hx
      have hsx := (HV2.out.below hb).ac x (List.mem_of_getElem? hx)
      have hxm := hsx.most
      have hxl := hsx.le
      unfold maxLen at hxm
      have HST := hide (fun (W : World) (hW : Below wr.heap.size wr W) => (show Calls Tryz.prog 29 #[.agg #[.int .i64 x.c.id, .int .i64 x.c.pol, .int .i64 x.c.per, .int .i64 x.c.loss, .int .i64 x.c.bkd, .int .i64 x.c.ev, .slice x.A x.l.length x.cap]] W fun e w' => e = .returned (.agg #[.int .i64 (psOf x).g, .int .i64 (psOf x).s, .int .i64 0, .int .i64 (psOf x).b, .int .i64 0, .bool (psOf x).o]) ∧ Below W.heap.size W w' from
        Stand_n (hsx.below hW) (by omega) rfl))
      obtain ⟨y, hy⟩ : ∃ y, psOf x = y := ⟨_, rfl⟩
      rw [hy] at HST
      have HY := hide hy
      subst hA
      clear ho hb hx hsx hy hxm hxl
      go_wp2_with fail
      refine (HST.out _ ((Below.refl _ _).alloc (Nat.le_refl _) _)).mono ?_
      rintro e w3 ⟨rfl, h3⟩
      have HB3 := hide (chain HBE.out (chain1 h3))
      have HOW3 := hide (HOW.out.below (chain1 h3))
      have hsz3 : w2.heap.size ≤ w3.heap.size := HB3.out.size
      clear h3 c0 c1 c2 c3 c4 c5 c6
      go_wp2_with (at_builtin
                   refine wpList_app rfl (.tmp 32) (.tmp 35) 30 rfl elPs (B := w2.heap.size) (A2 := some ⟨_, 0, none⟩) (news := [(⟨y.g, y.s, 0, y.b, 0, y.o⟩ : Ps)].map encPs) rfl (HOW3.out.alloc _) rfl rfl ?_ (okPs [(⟨y.g, y.s, 0, y.b, 0, y.o⟩ : Ps)]) ?_ ?_ ?_ ?_
                   · exact sl_of_blk (cs := #[.int .i64 y.g, .int .i64 y.s, .int .i64 0, .int .i64 y.b, .int .i64 0, .bool y.o]) (Blk.new' (by simp))
                   · simp only [maxLen]; omega
                   · omega
                   · simp; omega
                   intro A7 cap7 wa ho1 hg1 ha1
                   have HBa := hide ((HB3.out.alloc HB3.out.size (.cells #[.int .i64 y.g, .int .i64 y.s, .int .i64 0, .int .i64 y.b, .int .i64 0, .bool y.o] 42)).grown hg1 (by simp; omega) (fun kk hk => (HOW3.out.lt kk hk).1))
                   have HOa := hide ho1
                   clear hg1 ha1 ho1)
      go_roundw
      case rel =>
        refine ⟨i + 1, A7, cap7, by omega, by go_num, rfl, ?_, HBa.out⟩
        have h1 := HOa.out
        have h2 : psOf x = (⟨y.g, y.s, 0, y.b, 0, y.o⟩ : Ps) := by rw [← HY.out]; rfl
        rw [take_of HX.out, List.map_append, List.map_append, List.map_cons, List.map_nil, h2]
        exact h1
      case measure => simp [RowKit.intOf]; omega
    · obtain rfl : i = n := by omega
      have hP0 : OfI L ((L.take i).map psOf) (fun k => byF k (O.take 0)) := by
        have ht : L.take i = L := List.take_of_length_le (by rw [HN.out]; exact Nat.le_refl _)
        rw [ht]
        refine ⟨by simp, fun k z hz => ?_, fun k z hz => ?_⟩
        · rw [List.getElem?_map] at hz
          obtain ⟨x, hx⟩ := get_of (l := L) (k := k) (by
            rcases Nat.lt_or_ge k L.length with h | h
            · exact h
            · rw [List.getElem?_eq_none h] at hz; cases hz)
          rw [hx] at hz; cases hz; rfl
        · rw [List.getElem?_map] at hz
          obtain ⟨x, hx⟩ := get_of (l := L) (k := k) (by
            rcases Nat.lt_or_ge k L.length with h | h
            · exact h
            · rw [List.getElem?_eq_none h] at hz; cases hz)
          rw [hx] at hz; cases hz
          exact ⟨x, hx, rfl, rfl, rfl, rfl⟩
      have HP0 := hide hP0
      have HRO := hide (show ∀ r ∈ O, (∃ f : Nat, r.a = f ∧ f < i) ∧ 0 < r.m by rw [← HO.out, ← HN.out]; exact HIN.out.ro)
      have HTO := hide (show (O.map (·.m)).sum ≤ 1000000000000000 by rw [← HO.out, HIN.out.tot]; exact HIN.out.al)
      clear ho hb hP0
      go_wp2_with fail
      go_loopw [11, 40] (fun q11 q40 wr => ∃ (j : Nat) (P : List Ps), j ≤ m ∧ q40 = .int .i64 j ∧ q11 = .int .i64 ((O.take j).map (·.m)).sum ∧ OfI L P (fun k => byF k (O.take j)) ∧ OwnS wr w2.heap.size 42 6 A5 i cap5 (P.map encPs) ∧ Below w2.heap.size w2 wr) (fun _ q _ => m - (RowKit.intOf q).toNat)
      case atStart => exact ⟨0, _, Nat.zero_le _, rfl, rfl, HP0.out, HOW.out, HBE.out⟩
      case round =>
        rename World => wp
        obtain ⟨j, P, hj, rfl, rfl, hP, ho, hb⟩ := hrel
        have HPI := hide hP
        have HO2 := hide ho
        have HB3 := hide hb
        have hsm := sum_take_le (fun r hr => (HRO.out r hr).2) j
        have hto := HTO.out
        obtain ⟨S, hS⟩ : ∃ S, ((O.take j).map (·.m)).sum = S := ⟨_, rfl⟩
        rw [hS] at hsm ⊢
        have HSS := hide hS
        by_cases hlt2 : j < m
        · obtain ⟨x, hx⟩ := get_of (l := O) (k := j) (by rw [HM.out]; exact hlt2)
          obtain ⟨⟨f, hf, hfi⟩, hxm⟩ := HRO.out x (List.mem_of_getElem? hx)
          obtain ⟨y, hy⟩ := get_of (l := P) (k := f) (by rw [hP.len, HN.out]; exact hfi)
          obtain ⟨b, off, hA, hbl, d0, d1, d2⟩ := (HSR.out.below hb).sl.r3 hx
          obtain ⟨G, rfl, hG1, hG2⟩ : ∃ G, A5 = some ⟨G, 0, none⟩ ∧ w2.heap.size ≤ G ∧ G < wp.heap.size := by
            rcases ho.addr with ⟨-, h0, -⟩ | ⟨G, h1, h2, h3⟩
            · omega
            · exact ⟨G, h1, h2, h3⟩
          obtain ⟨b2, off2, hA2, -, e0, e1, e2, e3, e4, e5⟩ := ho.sl.ps hy
          obtain ⟨rfl, rfl⟩ : G = b2 ∧ 0 = off2 := by cases hA2; exact ⟨rfl, rfl⟩
          rw [Nat.zero_add] at e2
          have hby := byF_le (l := O.take j) (fun r hr => (HRO.out r (List.mem_of_mem_take hr)).2) f
          have hyp : y.p = byF f (O.take j) := hP.pd f y hy
          rw [← hyp, hS] at hby
          have hsm2 := sum_take_le (fun r hr => (HRO.out r hr).2) (j + 1)
          have hst : ((O.take (j + 1)).map (·.m)).sum = S + x.m := by rw [take_of hx, List.map_append, List.sum_append, hS]; simp
          rw [hst] at hsm2
          have HST := hide hst
          have HX := hide hx
          have HY := hide hy
          have HYP := hide hyp
          have HF := hide hf
          have hj0 : (0 : Int) ≤ (j : Int) := by omega
          have hj1 : (j : Int) < (m : Int) := by omega
          have hf0 : (0 : Int) ≤ (f : Int) := by omega
          have hf1 : (f : Int) < (i : Int) := by omega
          rw [hf] at d0
          obtain ⟨wx, hwx⟩ : ∃ W, wp.alloc (.cells #[.int .i64 f, .int .i64 x.b, .int .i64 x.m] 54) = W := ⟨_, rfl⟩
          have hbx : Below wp.heap.size wp wx := by rw [← hwx]; exact (Below.refl _ _).alloc (Nat.le_refl _) _
          have HXB := hide (show Blk wx wp.heap.size 54 #[.int .i64 f, .int .i64 x.b, .int .i64 x.m] by rw [← hwx]; exact Blk.new _ _ _)
          have HOX := hide (ho.below hbx)
          have HBX := hide (chain hb hbx)
          have HWX := hide hwx
          have e2x := kept hbx e2
          subst hA
          clear hP ho hb hS hx hy hA2 e0 e1 e2 e3 e4 e5 hyp hst hf hwx hbx
          go_upto_region 14 with fail
          rw [HWX.out]
          obtain ⟨X, hX⟩ : ∃ X, wp.heap.size = X := ⟨_, rfl⟩
          rw [hX] at HXB hG2 ⊢
          clear hX HWX d0 d1 d2
          have y0 : wx.cell? ⟨X, 0, none⟩ = some (.int .i64 f) := HXB.out.cell 0
          have y2 : wx.cell? ⟨X, 2, none⟩ = some (.int .i64 x.m) := HXB.out.cell 2
          have hwv : IntKind.i64.wrap (y.p + x.m) = y.p + x.m := IntWalk.i64_in _ (by omega)
          have hfz : wx.frozen? ⟨G, f * 6 + 2, none⟩ = false := HOX.out.frozen _
          go_cut [40] from 40 to 59 (fun q40 W => q40 = .int .i64 j ∧ W = (wx.setCell ⟨G, f * 6 + 2, none⟩ (.int .i64 (y.p + x.m))).drew)
          case first =>
            go_region_law (fail)
            all_goals
              go_wp2_with fail
              go_meet
              exact ⟨rfl, rfl⟩
          case rest =>
          obtain ⟨rfl, hcut⟩ := hcut
          subst hcut
          have HX7 := hide (((HXB.out).far (p := ⟨G, f * 6 + 2, none⟩) (by simp; omega) (.int .i64 (y.p + x.m))).drew)
          have HO7 := hide ((HOX.out.set_ (i := f) (j := 2) (row := encPs y) (by simp [HY.out]) (by omega) (u := .int .i64 (y.p + x.m)) rfl).drew)
          have HB7 := hide ((HBX.out.setCell (p := ⟨G, f * 6 + 2, none⟩) hG1 (.int .i64 (y.p + x.m))).drew)
          obtain ⟨w7, hw7⟩ : ∃ W, (wx.setCell ⟨G, f * 6 + 2, none⟩ (.int .i64 (y.p + x.m))).drew = W := ⟨_, rfl⟩
          rw [hw7] at HX7 HO7 HB7 ⊢
          have y2 : w7.cell? ⟨X, 2, none⟩ = some (.int .i64 x.m) := HX7.out.cell 2
          clear hw7 hwv hfz y0 e2x
          have hwS : wrap64 (S + x.m) = S + x.m := IntWalk.wrap64_in _ (by omega)
          go_wp2_with fail
          go_roundw
          case rel =>
            refine ⟨j + 1, P.set f { y with p := y.p + x.m }, by omega, by go_num, by rw [HST.out], HPI.out.put HY.out _ ?_ (fun k hk => ?_), ?_, HB7.out⟩
            · rw [byF_take HX.out, if_pos HF.out, HYP.out]
            · rw [byF_take HX.out, if_neg (by rw [HF.out]; omega), Int.add_zero]
            · have h1 := HO7.out
              rw [show (P.map encPs).set f ((encPs y).set 2 (.int .i64 (y.p + x.m))) = (P.set f { y with p := y.p + x.m }).map encPs by rw [List.map_set]; rfl] at h1
              exact h1
          case measure => simp [RowKit.intOf]; omega
        · obtain rfl : j = m := by omega
          have htm : O.take j = O := List.take_of_length_le (by rw [HM.out]; exact Nat.le_refl _)
          rw [htm] at hS hP
          have HS2 := hide hS
          have HP2 := hide hP
          have hS1 : 0 ≤ S ∧ S ≤ 1000000000000000 := by rw [hS] at hto; omega
          clear hP ho hb hS hsm hto htm
          go_wp2_with fail
          go_loopw [11, 62] (fun q11 q62 wr => ∃ (t : Nat) (U : Int) (PZ : List Ps), t ≤ i ∧ q62 = .int .i64 t ∧ q11 = .int .i64 U ∧ 0 ≤ U ∧ U ≤ 1000000000000000 ∧ Hid (heldN c P S t = (PZ, U)) ∧ OfI L PZ (fun k => byF k O) ∧ OwnS wr w2.heap.size 42 6 A5 i cap5 (PZ.map encPs) ∧ Below w2.heap.size w2 wr) (fun _ q _ => i - (RowKit.intOf q).toNat)
          case atStart => exact ⟨0, S, P, Nat.zero_le _, rfl, rfl, hS1.1, hS1.2, hide rfl, HP2.out, HO2.out, HB3.out⟩
          case round =>
            rename World => wq
            obtain ⟨t, U, P3, ht, rfl, rfl, hU0, hU1, HH3, hP3, ho3, hb3⟩ := hrel
            have HP3 := hide hP3
            have HO3 := hide ho3
            have HBQ := hide hb3
            by_cases hlt3 : t < i
            · obtain ⟨y, hy⟩ := get_of (l := P3) (k := t) (by rw [hP3.len, HN.out]; exact hlt3)
              obtain ⟨G, rfl, hG1, hG2⟩ : ∃ G, A5 = some ⟨G, 0, none⟩ ∧ w2.heap.size ≤ G ∧ G < wq.heap.size := by
                rcases ho3.addr with ⟨-, h0, -⟩ | ⟨G, h1, h2, h3⟩
                · omega
                · exact ⟨G, h1, h2, h3⟩
              obtain ⟨b2, off2, hA2, -, e0, e1, e2, e3, e4, e5⟩ := ho3.sl.ps hy
              obtain ⟨rfl, rfl⟩ : G = b2 ∧ 0 = off2 := by cases hA2; exact ⟨rfl, rfl⟩
              rw [Nat.zero_add] at e0 e1 e2 e3 e4 e5
              have hyp : y.p = byF t O := hP3.pd t y hy
              have hby := byF_le (l := O) (fun r hr => (HRO.out r hr).2) t
              have hto2 := HTO.out
              have hpb : 0 ≤ y.p ∧ y.p ≤ 1000000000000000 := by omega
              obtain ⟨x, hx, hg, -, -, -⟩ := hP3.gr t y hy
              have hgb := psOf_bd HRF.out (List.mem_of_getElem? hx)
              rw [← hg] at hgb
              have HY := hide hy
              have ht0 : (0 : Int) ≤ (t : Int) := by omega
              have ht1 : (t : Int) < (i : Int) := by omega
              obtain ⟨wx, hwx⟩ : ∃ W, wq.alloc (.cells #[.int .i64 y.g, .int .i64 y.s, .int .i64 y.p, .int .i64 y.b, .int .i64 y.r, .bool y.o] 42) = W := ⟨_, rfl⟩
              have hbx : Below wq.heap.size wq wx := by rw [← hwx]; exact (Below.refl _ _).alloc (Nat.le_refl _) _
              have HXB := hide (show Blk wx wq.heap.size 42 #[.int .i64 y.g, .int .i64 y.s, .int .i64 y.p, .int .i64 y.b, .int .i64 y.r, .bool y.o] by rw [← hwx]; exact Blk.new _ _ _)
              have HOX := hide (ho3.below hbx)
              have HBX := hide (chain hb3 hbx)
              have HWX := hide hwx
              have hcl : w.heap.size < w2.heap.size := HB2.out.lt
              clear hP3 ho3 hb3 hy hA2 hyp hby hto2 hx hg hwx hbx
              go_upto_region 20 with fail
              rw [HWX.out]
              obtain ⟨X, hX⟩ : ∃ X, wq.heap.size = X := ⟨_, rfl⟩
              rw [hX] at HXB hG2 ⊢
              clear hX HWX e0 e1 e2 e3 e4 e5
              obtain ⟨ob, hob⟩ : ∃ o, y.o = o := ⟨_, rfl⟩
              have y5 : wx.cell? ⟨X, 5, none⟩ = some (.bool ob) := by rw [← hob]; exact HXB.out.cell 5
              have HOB := hide hob
              clear hob
              cases ob
              · go_wp2_with fail
                go_roundw
                case rel => exact ⟨t + 1, U, P3, by omega, by go_num, rfl, hU0, hU1, hide (heldN_off HH3.out HY.out HOB.out), HP3.out, HOX.out, HBX.out⟩
                case measure => simp [RowKit.intOf]; omega
              · obtain ⟨q, hq⟩ : ∃ q, paysQ c y.g (U - y.p) = q := ⟨_, rfl⟩
                have hqb := paysQ_bd c y.g (U - y.p)
                have hcp := coverB_parts (right_file HRF.out).1
                rw [hq] at hqb
                have hqm : q ≤ 1000000000000000 + 1000000000000000 := by omega
                have HPY := hide (fun (W : World) (hW : Below wx.heap.size wx W) => (show Calls Tryz.prog 30 #[.agg #[.int .i64 c.p, .int .i64 c.lim, .int .i64 c.agg, .int .i64 c.ded, .int .i64 c.sh], .int .i64 y.g, .int .i64 (U - y.p)] W fun e w' => e = .returned (.int .i64 q) ∧ Below wx.heap.size wx w' by
                  rw [← hq]; exact (pays_any c y.g (U - y.p) hgb (by omega) W HOK.out).mono fun e w'' h => ⟨h.1, chain hW h.2⟩))
                obtain ⟨b0, b1, b2, b3, b4⟩ := cv_cells (HB2.out.below HBX.out hcl)
                have y0 : wx.cell? ⟨X, 0, none⟩ = some (.int .i64 y.g) := HXB.out.cell 0
                have y2 : wx.cell? ⟨X, 2, none⟩ = some (.int .i64 y.p) := HXB.out.cell 2
                have hwp : IntKind.i64.wrap (U - y.p) = U - y.p := IntWalk.i64_in _ (by omega)
                have hwq : IntKind.i64.wrap (q - y.p) = q - y.p := IntWalk.i64_in _ (by omega)
                have HHN := hide (heldN_on HH3.out HY.out HOB.out)
                rw [hq] at HHN
                clear hq
                go_wp2_with fail
                refine wp_region_class (fun W => Below wx.heap.size wx W) (by kernel_rfl) (by kernel_rfl) (Below.refl _ _).drew ?_
                repeat (first
                  | go_big_quiet_skip
                  | (go_big_quiet_want
                     first
                       | (go_big_quiet_op
                          go_big_quiet_on)
                       | (refine quiet_call (v := .int .i64 q) (f := 30) (args := #[.agg #[.int .i64 c.p, .int .i64 c.lim, .int .i64 c.agg, .int .i64 c.ded, .int .i64 c.sh], .int .i64 y.g, .int .i64 (U - y.p)]) ?_ ?_ ?_
                          · intro W hW
                            have b0 := kept hW b0
                            have b1 := kept hW b1
                            have b2 := kept hW b2
                            have b3 := kept hW b3
                            have b4 := kept hW b4
                            have y0 := kept hW y0
                            have y2 := kept hW y2
                            clear hW
                            go_simp
                            done
                          · intro W hW
                            exact HPY.out W hW
                          simp only [Act.put, List.setIfInBounds_toArray, List.set_cons_zero, List.set_cons_succ]
                          go_big_quiet_on)
                       | (refine quiet_yield (v := ?_) ?_ ?_
                          rotate_left
                          · intro W hW
                            have b0 := kept hW b0
                            have b1 := kept hW b1
                            have b2 := kept hW b2
                            have b3 := kept hW b3
                            have b4 := kept hW b4
                            have y0 := kept hW y0
                            have y2 := kept hW y2
                            clear hW
                            go_simp
                            try with_reducible rfl
                          simp only [Act.put, List.setIfInBounds_toArray, List.set_cons_zero, List.set_cons_succ]
                          go_big_quiet_on)))
                refine wpQuiet_nil ?_
                intro W hW
                have HO4 := hide (HOX.out.below hW)
                have HB4 := hide (chain HBX.out hW)
                clear b0 b1 b2 b3 b4 y0 y2 y5 hwp hwq HPY HOX HBX HXB hW
                have hUh : 0 ≤ U + max 0 (q - y.p) ∧ U + max 0 (q - y.p) ≤ 1000000000000000 := by omega
                obtain ⟨held, hheld⟩ : ∃ z, max 0 (q - y.p) = z := ⟨_, rfl⟩
                rw [hheld] at hUh HHN ⊢
                clear hheld hqb hqm hcp
                have hfz : W.frozen? ⟨G, t * 6 + 4, none⟩ = false := HO4.out.frozen _
                have hc4 : W.cell? ⟨G, t * 6 + 4, none⟩ = some (.int .i64 y.r) := by
                  obtain ⟨b3, off3, hA3, -, -, -, -, -, f4, -⟩ := HO4.out.sl.ps HY.out
                  obtain ⟨rfl, rfl⟩ : G = b3 ∧ 0 = off3 := by cases hA3; exact ⟨rfl, rfl⟩
                  rw [Nat.zero_add] at f4
                  exact f4
                have hwS : wrap64 (U + held) = U + held := IntWalk.wrap64_in _ (by omega)
                go_wp2_with fail
                go_roundw
                case rel =>
                  refine ⟨t + 1, U + held, P3.set t { y with r := held }, by omega, by go_num, rfl, by omega, by omega, HHN, HP3.out.res HY.out _, ?_, HB4.out.setCell (p := ⟨G, t * 6 + 4, none⟩) hG1 (.int .i64 held)⟩
                  have h1 := HO4.out.set_ (i := t) (j := 4) (row := encPs y) (by simp [HY.out]) (by omega) (u := .int .i64 held) rfl
                  rw [show (P3.map encPs).set t ((encPs y).set 4 (.int .i64 held)) = (P3.set t { y with r := held }).map encPs by rw [List.map_set]; rfl] at h1
                  exact h1
                case measure => simp [RowKit.intOf]; omega
            · go_wp2
              go_ret2
              exact ⟨chain H2.out HBQ.out, .inr ⟨HE.out, A5, cap5, P3, by rw [HN.out]; rfl, by rw [HN.out]; exact HO3.out.sv, by rw [HO.out]; exact HP3.out, P, by rw [HO.out]; exact HP2.out, by rw [HO.out, HS2.out, HN.out, show i = t by omega, HH3.out]⟩⟩
end Go.Proofs.YtmfohnchnbgbaaaGreat
