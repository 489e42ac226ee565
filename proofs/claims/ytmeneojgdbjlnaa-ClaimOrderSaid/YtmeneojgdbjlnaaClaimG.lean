/- What is put into a file: the document's walk, of tame files. -/
import Derived.Test.YtmeneojgdbjlnaaClaimF
import Derived.Deep.RegionLaw
import Derived.Deep.RegionHeld3
namespace Go.Proofs.Ytmeneojgdbjlnaa
open Go.RowKit

theorem own_of_blk {W : World} {g B : Nat} {e : TypeId} {sz : Nat} (h : Blk W g e #[]) (hB : B ≤ g) : OwnS W B e sz (some ⟨g, 0, none⟩) 0 0 [] :=
  ⟨⟨by simp, .inr ⟨g, 0, #[], rfl, hB, h, Nat.le_refl _, Nat.zero_le _, by simp, by simp⟩⟩, rfl, RowsOk.nil_⟩

theorem sum_bd (k : Int) : ∀ (n : Nat) (l : List Ac), l.length = n → n ≤ 100 → (∀ a ∈ l, -1000000000000000 ≤ a.m ∧ a.m ≤ 1000000000000000) → -(n * 1000000000000000 : Int) ≤ sumK k l ∧ sumK k l ≤ n * 1000000000000000 := by
  intro n
  induction n with
  | zero => intro l h _ _; have : l = [] := List.eq_nil_of_length_eq_zero h; subst this; simp [sumK]
  | succ n ih =>
    intro l h hn ht
    obtain ⟨r, a, rfl⟩ : ∃ r a, l = r ++ [a] := ⟨l.dropLast, l.getLast (by intro e; subst e; simp at h), (List.dropLast_concat_getLast _).symm⟩
    have hr := ih r (by simpa using h) (by omega) (fun x hx => ht x (by simp [hx]))
    have ha := ht a (by simp)
    rw [sumK_snoc]
    split
    · rw [IntWalk.wrap64_in _ (by omega)]; omega
    · omega
theorem tame_parts {l : List Ac} (h : tameB l = true) : l.length ≤ 100 ∧ (-100000000000000000 ≤ (standP l).s ∧ (standP l).s ≤ 100000000000000000) ∧ (-100000000000000000 ≤ (standP l).b ∧ (standP l).b ≤ 100000000000000000) := by
  simp only [tameB, Bool.and_eq_true, List.all_eq_true, decide_eq_true_eq] at h
  have hs := stand_sums _ l rfl
  have h2 := sum_bd 2 _ l rfl h.2 h.1
  have h3 := sum_bd 3 _ l rfl h.2 h.1
  rw [hs.1, hs.2]
  have := h.2
  refine ⟨h.2, ?_, ?_⟩ <;> omega
/-- The document's test for too much. -/
theorem over_doc {p : St} {k m : Int} (_hs : -100000000000000000 ≤ p.s ∧ p.s ≤ 100000000000000000) (_hb : -100000000000000000 ≤ p.b ∧ p.b ≤ 100000000000000000) (_hm : 0 ≤ m ∧ m ≤ 1000000000000000) :
    overB p k m = decide ((k = 2 ∧ 1000000000000000 < p.s + m) ∨ (k = 3 ∧ 1000000000000000 < p.b + m)) := by
  unfold overB
  rw [IntWalk.wrap64_in _ (by omega), IntWalk.wrap64_in _ (by omega), decide_eq_decide]
  omega

/-- The file's box, the act's, the result's. -/
structure PutR (w : World) (c : Cl) (A : Option Addr) (n cap : Nat) (b k m : Int) (wx : World) : Prop where
  f : Blk wx w.heap.size 32 (boxC c A n cap)
  a : Blk wx (w.heap.size + 1) 25 (acC b k m)
  z : Blk wx (w.heap.size + 1 + 1) 32 zeroF
  bel : Below w.heap.size w wx
section
variable {w wx wy : World} {c : Cl} {A : Option Addr} {n cap : Nat} {b k m : Int}
theorem PutR.below (h : PutR w c A n cap b k m wx) (hb : Below wx.heap.size wx wy) : PutR w c A n cap b k m wy :=
  ⟨h.f.below hb h.f.lt, h.a.below hb h.a.lt, h.z.below hb h.z.lt, chain h.bel hb⟩
theorem PutR.drew (h : PutR w c A n cap b k m wx) : PutR w c A n cap b k m wx.drew := ⟨h.f, h.a, h.z, h.bel.drew⟩
theorem PutR.alloc (h : PutR w c A n cap b k m wx) (o : Obj) : PutR w c A n cap b k m (wx.alloc o) := ⟨h.f.alloc o, h.a.alloc o, h.z.alloc o, h.bel.alloc h.bel.size o⟩
theorem PutR.grown (h : PutR w c A n cap b k m wx) {row : Option Nat} (hg : wx.grownBy wy row) (hr : ∀ j, row = some j → w.heap.size + 1 + 1 < j) : PutR w c A n cap b k m wy := by
  have hne : ∀ i, i ≤ w.heap.size + 1 + 1 → some i ≠ row := fun i hi he => by have := hr i he.symm; omega
  exact ⟨h.f.grown hg (hne _ (by omega)), h.a.grown hg (hne _ (by omega)), h.z.grown hg (hne _ (by omega)), h.bel.grown hg h.bel.size (fun j hj => by have := hr j hj; omega)⟩
end
theorem noR_post {w wx : World} {c : Cl} {A : Option Addr} {n cap : Nat} {b k m : Int} {fn : Func} {a : Act} {l : List Ac} {x : Ac} {code : Int} {tr : Tmp}
    (h : PutR w c A n cap b k m wx) (hc : code ≠ 0) (hr : fn.results = #[.cell 4 32, .tmp tr]) (hd : a.defers = []) (hp : a.tmps.getD 4 undef = .pointer (some ⟨w.heap.size + 1 + 1, 0, none⟩)) (hx : a.tmps.getD tr undef = .int .i64 code) :
    bodyPost Try.prog fn (PutPost w c l x code) .ret a (((((((wx.setCell ⟨w.heap.size + 1 + 1, 0, none⟩ (.int .i64 0)).setCell ⟨w.heap.size + 1 + 1, 1, none⟩ (.int .i64 0)).setCell ⟨w.heap.size + 1 + 1, 2, none⟩ (.int .i64 0)).setCell ⟨w.heap.size + 1 + 1, 3, none⟩ (.int .i64 0)).setCell ⟨w.heap.size + 1 + 1, 4, none⟩ (.int .i64 0)).setCell ⟨w.heap.size + 1 + 1, 5, none⟩ (.int .i64 0)).setCell ⟨w.heap.size + 1 + 1, 6, none⟩ (.slice none 0 0)) :=
  ret_row2 hr hd hp hx (set7 h.z _ _ _ _ _ _ _) Try.underlying32 rfl (by kernel_rfl) ⟨bel7 h.bel (by omega) _ _ _ _ _ _ _, .inl ⟨hc, rfl⟩⟩
theorem noR_post2 {w wx : World} {c : Cl} {A : Option Addr} {n cap : Nat} {b k m : Int} {fn : Func} {a : Act} {l : List Ac} {x : Ac} {code : Int} {tr : Tmp} {o : Obj}
    (h : PutR w c A n cap b k m wx) (hc : code ≠ 0) (hr : fn.results = #[.cell 4 32, .tmp tr]) (hd : a.defers = []) (hp : a.tmps.getD 4 undef = .pointer (some ⟨w.heap.size + 1 + 1, 0, none⟩)) (hx : a.tmps.getD tr undef = .int .i64 code) :
    bodyPost Try.prog fn (PutPost w c l x code) .ret a ((((((((wx.setCell ⟨w.heap.size + 1 + 1, 0, none⟩ (.int .i64 0)).setCell ⟨w.heap.size + 1 + 1, 1, none⟩ (.int .i64 0)).setCell ⟨w.heap.size + 1 + 1, 2, none⟩ (.int .i64 0)).setCell ⟨w.heap.size + 1 + 1, 3, none⟩ (.int .i64 0)).setCell ⟨w.heap.size + 1 + 1, 4, none⟩ (.int .i64 0)).setCell ⟨w.heap.size + 1 + 1, 5, none⟩ (.int .i64 0)).setCell ⟨w.heap.size + 1 + 1, 6, none⟩ (.slice none 0 0)).alloc o) :=
  ret_row2 hr hd hp hx ((set7 h.z _ _ _ _ _ _ _).alloc _) Try.underlying32 rfl (by kernel_rfl) ⟨(bel7 h.bel (by omega) _ _ _ _ _ _ _).alloc (bel7 h.bel (by omega) _ _ _ _ _ _ _).size _, .inl ⟨hc, rfl⟩⟩
theorem yesR_post {w wx : World} {c : Cl} {A0 : Option Addr} {n0 cap0 : Nat} {b k m : Int} {fn : Func} {a : Act} {l : List Ac} {x : Ac} {code : Int} {tr : Tmp} {A : Option Addr} {cap B : Nat}
    (h : PutR w c A0 n0 cap0 b k m wx) (ho : OwnS wx B 25 3 A (l.length + 1) cap ((l ++ [x]).map encAc)) (hB : w.heap.size + 1 + 1 < B) (hc : code = 0) (hr : fn.results = #[.cell 4 32, .tmp tr]) (hd : a.defers = []) (hp : a.tmps.getD 4 undef = .pointer (some ⟨w.heap.size + 1 + 1, 0, none⟩)) (hx : a.tmps.getD tr undef = .int .i64 0) :
    bodyPost Try.prog fn (PutPost w c l x code) .ret a (((((((wx.setCell ⟨w.heap.size + 1 + 1, 0, none⟩ (.int .i64 c.id)).setCell ⟨w.heap.size + 1 + 1, 1, none⟩ (.int .i64 c.pol)).setCell ⟨w.heap.size + 1 + 1, 2, none⟩ (.int .i64 c.per)).setCell ⟨w.heap.size + 1 + 1, 3, none⟩ (.int .i64 c.loss)).setCell ⟨w.heap.size + 1 + 1, 4, none⟩ (.int .i64 c.bkd)).setCell ⟨w.heap.size + 1 + 1, 5, none⟩ (.int .i64 c.ev)).setCell ⟨w.heap.size + 1 + 1, 6, none⟩ (.slice A (l.length + 1) cap)) :=
  ret_row2 hr hd hp hx (set7 h.z _ _ _ _ _ _ _) Try.underlying32 rfl (by kernel_rfl) ⟨bel7 h.bel (by omega) _ _ _ _ _ _ _, .inr ⟨hc, A, cap, rfl, (own_far7 ho hB _ _ _ _ _ _ _).sv, fun kk hk => by have := (ho.lt kk hk).1; omega⟩⟩

theorem cell_far7 {w : World} {b o g : Nat} {u : Value} (h : w.cell? ⟨b, o, none⟩ = some u) (hne : b ≠ g) {u0 u1 u2 u3 u4 u5 u6 : Value} :
    (((((((w.setCell ⟨g, 0, none⟩ u0).setCell ⟨g, 1, none⟩ u1).setCell ⟨g, 2, none⟩ u2).setCell ⟨g, 3, none⟩ u3).setCell ⟨g, 4, none⟩ u4).setCell ⟨g, 5, none⟩ u5).setCell ⟨g, 6, none⟩ u6).cell? ⟨b, o, none⟩ = some u := by
  rw [World.cell?_of_block (w := w)]
  · exact h
  · simp only [heap_setCell_other _ _ _ _ (show b ≠ (Addr.mk g 0 none).block from hne), heap_setCell_other _ _ _ _ (show b ≠ (Addr.mk g 1 none).block from hne), heap_setCell_other _ _ _ _ (show b ≠ (Addr.mk g 2 none).block from hne), heap_setCell_other _ _ _ _ (show b ≠ (Addr.mk g 3 none).block from hne),
      heap_setCell_other _ _ _ _ (show b ≠ (Addr.mk g 4 none).block from hne), heap_setCell_other _ _ _ _ (show b ≠ (Addr.mk g 5 none).block from hne), heap_setCell_other _ _ _ _ (show b ≠ (Addr.mk g 6 none).block from hne)]
theorem last_get {bkd : Int} {l : List Ac} {x : Ac} (hx : l[l.length - 1]? = some x) : lastB bkd l = x.b := by
  unfold lastB
  rw [List.getLast?_eq_getElem?, hx]

set_option maxRecDepth 100000 in
set_option maxHeartbeats 4000000 in
theorem putR_any (c : Cl) (A : Option Addr) (cap : Nat) (l : List Ac) (b k m : Int) (w : World) (hv : SV w 3 A l.length cap (l.map encAc)) (ht : tameB l = true) :
    Calls Try.prog 17 #[.agg #[.int .i64 c.id, .int .i64 c.pol, .int .i64 c.per, .int .i64 c.loss, .int .i64 c.bkd, .int .i64 c.ev, .slice A l.length cap], .agg #[.int .i64 b, .int .i64 k, .int .i64 m]] w (PutPost w c l ⟨b, k, m⟩ (putC c.bkd l ⟨b, k, m⟩)) := by
  obtain ⟨hm, ts, tb⟩ := tame_parts ht
  have HV := hide hv
  have HT := hide (And.intro ts tb)
  clear hv ht ts tb
  obtain ⟨code, hcode⟩ : ∃ x, putC c.bkd l ⟨b, k, m⟩ = x := ⟨_, rfl⟩
  rw [hcode]
  have HC := hide hcode
  clear hcode
  go_enter Try.func17, Try.ntmps17
  go_wp2_with fail
  refine (rightR_any b k m _).mono ?_
  rintro e w2 ⟨rfl, hb2⟩
  have hW2 : PutR w c A l.length cap b k m w2 := PutR.below ⟨((Blk.new' (w := w) rfl).alloc _).alloc _, (Blk.new' (w := w.alloc _) (by simp)).alloc _, Blk.new' (w := (w.alloc _).alloc _) (by simp), (((Below.refl _ _).alloc (Nat.le_refl _) _).alloc (by simp) _).alloc (by simp; omega) _⟩ hb2
  clear hb2
  have f0 := hW2.f.cell 0
  have f1 := hW2.f.cell 1
  have f2 := hW2.f.cell 2
  have f3 := hW2.f.cell 3
  have f4 := hW2.f.cell 4
  have f5 := hW2.f.cell 5
  have f6 := hW2.f.cell 6
  have a0 := hW2.a.cell 0
  have a1 := hW2.a.cell 1
  have a2 := hW2.a.cell 2
  have z0 := hW2.z.cell 0
  have u0 := hW2.z.frozen 0
  have z1 := hW2.z.cell 1
  have u1 := hW2.z.frozen 1
  have z2 := hW2.z.cell 2
  have u2 := hW2.z.frozen 2
  have z3 := hW2.z.cell 3
  have u3 := hW2.z.frozen 3
  have z4 := hW2.z.cell 4
  have u4 := hW2.z.frozen 4
  have z5 := hW2.z.cell 5
  have u5 := hW2.z.frozen 5
  have z6 := hW2.z.cell 6
  have u6 := hW2.z.frozen 6
  simp [boxC, acC, zeroF] at z0 z1 z2 z3 z4 z5 z6 f0 f1 f2 f3 f4 f5 f6 a0 a1 a2
  cases hr : rightB ⟨b, k, m⟩
  · have hc : code = 1 := by rw [← HC.out, putC, if_pos hr]
    subst hc
    go_wp2_with fail
    exact noR_post hW2 (by decide) rfl rfl rfl rfl
  have hm0 : 0 ≤ m := (right_parts hr).2.2.2.2.1
  have hm1 : m ≤ 1000000000000000 := (right_parts hr).2.2.2.2.2.1
  have hlen' : (l.length : Int) < 2000 := by omega
  go_upto_if 25 with fail
  go_cut [7] (fun t wx => t = .int .i64 (lastB c.bkd l) ∧ w2 = wx)
  case first =>
    rcases Nat.eq_zero_or_pos l.length with h0 | h0
    · have : l = [] := List.eq_nil_of_length_eq_zero h0
      subst this
      go_wp2_with fail
      go_meet
      exact ⟨rfl, rfl⟩
    · obtain ⟨⟨ab, ak, am⟩, hx⟩ := get_of (show l.length - 1 < l.length by omega)
      obtain ⟨bb, off, rfl, hbl, hc0, hc1, hc2⟩ := ((HV.out.sl.below hW2.bel).more hW2.bel.size).ac hx
      have HL := hide (last_get (bkd := c.bkd) hx)
      clear hx
      have hp : (0 : Int) < (l.length : Int) := by omega
      simp only at hc0
      go_wp2_with fail
      go_meet
      exact ⟨by rw [HL.out], rfl⟩
  case rest =>
    obtain ⟨rfl, rfl⟩ := hcut
    obtain ⟨La, hLa⟩ : ∃ x, lastB c.bkd l = x := ⟨_, rfl⟩
    rw [hLa]
    by_cases hbl : b < La
    · have hc : code = 4 := by rw [← HC.out, putC, if_neg (by simp [hr]), if_neg (by omega), if_pos (by rw [hLa]; exact hbl)]
      subst hc
      go_wp2_with fail
      exact noR_post hW2 (by decide) rfl rfl rfl rfl
    go_wp2_with fail
    refine (StandR_any c A cap l _ ((HV.out.below hW2.bel).sl) (by omega)).mono ?_
    rintro e w3 ⟨rfl, hb3⟩
    have hW3 := hW2.below hb3
    clear f0 f1 f2 f3 f4 f5 f6 a0 a1 a2 z0 z1 z2 z3 z4 z5 z6 u0 u1 u2 u3 u4 u5 u6 hW2 hb3
    rcases hst : standP l with ⟨g, s, bk, o⟩
    have HS := hide hst
    have hts := HT.out.1
    have htb := HT.out.2
    rw [hst] at hts htb
    simp only at hts htb
    have hov := over_doc (p := ⟨g, s, bk, o⟩) (k := k) (m := m) hts htb ⟨hm0, hm1⟩
    have HO := hide hov
    clear hst HT hov
    simp only [posC]
    have f0 := hW3.f.cell 0
    have f1 := hW3.f.cell 1
    have f2 := hW3.f.cell 2
    have f3 := hW3.f.cell 3
    have f4 := hW3.f.cell 4
    have f5 := hW3.f.cell 5
    have f6 := hW3.f.cell 6
    have a0 := hW3.a.cell 0
    have a1 := hW3.a.cell 1
    have a2 := hW3.a.cell 2
    have z0 := hW3.z.cell 0
    have u0 := hW3.z.frozen 0
    have z1 := hW3.z.cell 1
    have u1 := hW3.z.frozen 1
    have z2 := hW3.z.cell 2
    have u2 := hW3.z.frozen 2
    have z3 := hW3.z.cell 3
    have u3 := hW3.z.frozen 3
    have z4 := hW3.z.cell 4
    have u4 := hW3.z.frozen 4
    have z5 := hW3.z.cell 5
    have u5 := hW3.z.frozen 5
    have z6 := hW3.z.cell 6
    have u6 := hW3.z.frozen 6
    have hz0 := hW3.f.lt
    have hz1 := hW3.a.lt
    have hz2 := hW3.z.lt
    simp [boxC, acC, zeroF] at z0 z1 z2 z3 z4 z5 z6 f0 f1 f2 f3 f4 f5 f6 a0 a1 a2
    have hW4 := hW3.alloc (.cells #[.int .i64 (max g s), .int .i64 s, .int .i64 0, .int .i64 bk, .int .i64 0, .bool o] 42)
    have hst : (o = true ∧ k = 5) ∨ (o = false ∧ k ≠ 5) ∨ (o = true ∧ k ≠ 5) ∨ (o = false ∧ k = 5) := by
      cases o <;> by_cases h5 : k = 5 <;> simp [h5]
    rcases hst with ⟨rfl, rfl⟩ | ⟨rfl, h5⟩ | ⟨rfl, h5⟩ | ⟨rfl, rfl⟩
    · have hc : code = 10 := by rw [← HC.out, putC, if_neg (by simp [hr]), if_neg (by omega), if_neg (by rw [hLa]; simp only; omega), if_pos (by rw [HS.out]; rfl)]
      subst hc
      go_wp2_with fail
      exact noR_post2 hW3 (by decide) rfl rfl rfl rfl
    · have hc : code = 10 := by rw [← HC.out, putC, if_neg (by simp [hr]), if_neg (by omega), if_neg (by rw [hLa]; simp only; omega), if_pos (by rw [HS.out]; simp [h5])]
      subst hc
      have h5' : (k == 5) = false := by simpa using h5
      have h5'' : (k != 5) = true := by simpa using h5
      go_wp2_with fail
      exact noR_post2 hW3 (by decide) rfl rfl rfl rfl
    · have h5' : (k == 5) = false := by simpa using h5
      have hok : overB ⟨g, s, bk, true⟩ k m = false → code = 0 := fun ho => by rw [← HC.out, putC, if_neg (by simp [hr]), if_neg (by omega), if_neg (by rw [hLa]; simp only; omega), if_neg (by rw [HS.out]; simp [h5]), if_neg (by rw [HS.out]; simp only; rw [ho]; simp)]
      have hno : overB ⟨g, s, bk, true⟩ k m = true → code = 5 := fun ho => by rw [← HC.out, putC, if_neg (by simp [hr]), if_neg (by omega), if_neg (by rw [hLa]; simp only; omega), if_neg (by rw [HS.out]; simp [h5]), if_pos (by rw [HS.out]; exact ho)]
      rw [HO.out] at hok hno
      simp only [decide_eq_true_eq, decide_eq_false_iff_not] at hok hno
      have hok := hide hok
      have hno := hide hno
      by_cases h2 : k = 2
      · subst h2
        rcases Int.lt_or_le 1000000000000000 (s + m) with hsm | hsm
        · obtain rfl : code = 5 := hno.out (by omega)
          go_wp2_with fail
          exact noR_post2 hW3 (by decide) rfl rfl rfl rfl
        · obtain rfl : code = 0 := hok.out (by omega)
          go_wp2_with fail
          obtain ⟨w4, hw4⟩ : ∃ W, w3.alloc (.cells #[.int .i64 (max g s), .int .i64 s, .int .i64 0, .int .i64 bk, .int .i64 0, .bool true] 42) = W := ⟨_, rfl⟩
          rw [hw4] at hW4 ⊢
          clear hw4 f0 f1 f2 f3 f4 f5 f6 a0 a1 a2 z0 z1 z2 z3 z4 z5 z6 u0 u1 u2 u3 u4 u5 u6 hz0 hz1 hz2
          have f0 := hW4.f.cell 0
          have f1 := hW4.f.cell 1
          have f2 := hW4.f.cell 2
          have f3 := hW4.f.cell 3
          have f4 := hW4.f.cell 4
          have f5 := hW4.f.cell 5
          have f6 := hW4.f.cell 6
          have a0 := hW4.a.cell 0
          have a1 := hW4.a.cell 1
          have a2 := hW4.a.cell 2
          have hz0 := hW4.f.lt
          have hz1 := hW4.a.lt
          have hz2 := hW4.z.lt
          simp [boxC, acC] at f0 f1 f2 f3 f4 f5 f6 a0 a1 a2
          go_region_held3 (fun w' => w'.cell? ⟨w.heap.size, 0, none⟩ = some (.int .i64 c.id) ∧ w'.cell? ⟨w.heap.size, 1, none⟩ = some (.int .i64 c.pol) ∧ w'.cell? ⟨w.heap.size, 2, none⟩ = some (.int .i64 c.per) ∧ w'.cell? ⟨w.heap.size, 3, none⟩ = some (.int .i64 c.loss) ∧ w'.cell? ⟨w.heap.size, 4, none⟩ = some (.int .i64 c.bkd) ∧ w'.cell? ⟨w.heap.size, 5, none⟩ = some (.int .i64 c.ev) ∧ w'.cell? ⟨w.heap.size, 6, none⟩ = some (.slice A l.length cap) ∧ w'.cell? ⟨w.heap.size + 1, 0, none⟩ = some (.int .i64 b) ∧ w'.cell? ⟨w.heap.size + 1, 1, none⟩ = some (.int .i64 2) ∧ w'.cell? ⟨w.heap.size + 1, 2, none⟩ = some (.int .i64 m)) (first | with_reducible exact ⟨g0, g1, g2, g3, g4, g5, g6, k0, k1, k2⟩ | with_reducible exact ⟨cell_far7 g0 (by omega), cell_far7 g1 (by omega), cell_far7 g2 (by omega), cell_far7 g3 (by omega), cell_far7 g4 (by omega), cell_far7 g5 (by omega), cell_far7 g6 (by omega), cell_far7 k0 (by omega), cell_far7 k1 (by omega), cell_far7 k2 (by omega)⟩ | go_keep)
           (first
            | (refine step_app rfl (.tmp 87) (.tmp 89) 30 rfl elAc (B := w4.heap.size) (rows := []) (A := some ⟨_, 0, none⟩) (news := l.map encAc) rfl ?_ rfl (by simp) ?_ (okAc l) ?_ ?_ ?_ ?_
               · first | exact own_of_blk (Blk.drew (Blk.new' (by simp))) (by omega) | exact own_of_blk (Blk.drew ((Blk.new' (by simp)).alloc _)) (by omega)
               · refine (HV.out.below (PutR.bel (c := c) (A := A) (n := l.length) (cap := cap) (b := b) (k := 2) (m := m) ?_)).sl
                 repeat (first | exact hW4 | refine PutR.drew ?_ | refine PutR.alloc ?_ _)
               · (simp only [maxLen]; omega)
               · omega
               · first | omega | (simp; done) | (simp; omega)
               intro A1 c1 wa ho1 hg1 ha1
               rw [Nat.zero_add, List.nil_append] at ho1
               rw [Nat.zero_add]
               have hW5 : PutR w c A l.length cap b 2 m wa := PutR.grown (by repeat (first | exact hW4 | refine PutR.drew ?_ | refine PutR.alloc ?_ _)) hg1 (fun j hj => by simp [blk] at hj; omega)
               have g0 := hW5.f.cell 0
               have g1 := hW5.f.cell 1
               have g2 := hW5.f.cell 2
               have g3 := hW5.f.cell 3
               have g4 := hW5.f.cell 4
               have g5 := hW5.f.cell 5
               have g6 := hW5.f.cell 6
               have k0 := hW5.a.cell 0
               have k1 := hW5.a.cell 1
               have k2 := hW5.a.cell 2
               have hz0 := hW5.f.lt
               have hz1 := hW5.a.lt
               have hz2 := hg1.size
               simp [boxC, acC] at g0 g1 g2 g3 g4 g5 g6 k0 k1 k2 hz2)
            | (refine step_app rfl (.tmp 90) (.tmp 92) 30 rfl elAc (B := w4.heap.size) (rows := l.map encAc) (A2 := some ⟨_, 0, none⟩) (news := [⟨b, 2, m⟩].map encAc) rfl ?_ rfl rfl ?_ (okAc [⟨b, 2, m⟩]) ?_ ?_ ?_ ?_
               · first | exact ho1 | exact ho1.alloc _
               · first | exact sl_of_blk (cs := acC b 2 m) (Blk.new _ _ _) | exact sl_of_blk (cs := acC b 2 m) (Blk.grown (Blk.drew (Blk.new' (by simp))) hg1 (by simp [blk])) | exact sl_of_blk (cs := acC b 2 m) (Blk.grown (Blk.drew ((Blk.new' (by simp)).alloc _)) hg1 (by simp [blk]))
               · (simp only [maxLen]; omega)
               · omega
               · first | omega | (simp; done) | (simp; omega)
               intro A2 c2 wb ho2 hg2 ha2
               have hW6 : PutR w c A l.length cap b 2 m wb := PutR.grown (by first | exact hW5 | exact hW5.alloc _) hg2 (fun j hj => by have := (ho1.lt j hj).1; omega)
               have g0 := hW6.f.cell 0
               have g1 := hW6.f.cell 1
               have g2 := hW6.f.cell 2
               have g3 := hW6.f.cell 3
               have g4 := hW6.f.cell 4
               have g5 := hW6.f.cell 5
               have g6 := hW6.f.cell 6
               have k0 := hW6.a.cell 0
               have k1 := hW6.a.cell 1
               have k2 := hW6.a.cell 2
               have x0 := hW6.z.cell 0
               have t0 := hW6.z.frozen 0
               have x1 := hW6.z.cell 1
               have t1 := hW6.z.frozen 1
               have x2 := hW6.z.cell 2
               have t2 := hW6.z.frozen 2
               have x3 := hW6.z.cell 3
               have t3 := hW6.z.frozen 3
               have x4 := hW6.z.cell 4
               have t4 := hW6.z.frozen 4
               have x5 := hW6.z.cell 5
               have t5 := hW6.z.frozen 5
               have x6 := hW6.z.cell 6
               have t6 := hW6.z.frozen 6
               have hzz := hW6.z.lt
               simp [boxC, acC, zeroF] at g0 g1 g2 g3 g4 g5 g6 k0 k1 k2 x0 x1 x2 x3 x4 x5 x6))
          all_goals
            go_wp2_with fail
            exact yesR_post hW6 (by rw [List.map_append]; exact ho2) (by omega) rfl rfl rfl rfl rfl
      by_cases h3 : k = 3
      · subst h3
        rcases Int.lt_or_le 1000000000000000 (bk + m) with hsm | hsm
        · obtain rfl : code = 5 := hno.out (by omega)
          go_wp2_with fail
          exact noR_post2 hW3 (by decide) rfl rfl rfl rfl
        · obtain rfl : code = 0 := hok.out (by omega)
          go_wp2_with fail
          obtain ⟨w4, hw4⟩ : ∃ W, w3.alloc (.cells #[.int .i64 (max g s), .int .i64 s, .int .i64 0, .int .i64 bk, .int .i64 0, .bool true] 42) = W := ⟨_, rfl⟩
          rw [hw4] at hW4 ⊢
          clear hw4 f0 f1 f2 f3 f4 f5 f6 a0 a1 a2 z0 z1 z2 z3 z4 z5 z6 u0 u1 u2 u3 u4 u5 u6 hz0 hz1 hz2
          have f0 := hW4.f.cell 0
          have f1 := hW4.f.cell 1
          have f2 := hW4.f.cell 2
          have f3 := hW4.f.cell 3
          have f4 := hW4.f.cell 4
          have f5 := hW4.f.cell 5
          have f6 := hW4.f.cell 6
          have a0 := hW4.a.cell 0
          have a1 := hW4.a.cell 1
          have a2 := hW4.a.cell 2
          have hz0 := hW4.f.lt
          have hz1 := hW4.a.lt
          have hz2 := hW4.z.lt
          simp [boxC, acC] at f0 f1 f2 f3 f4 f5 f6 a0 a1 a2
          go_region_held3 (fun w' => w'.cell? ⟨w.heap.size, 0, none⟩ = some (.int .i64 c.id) ∧ w'.cell? ⟨w.heap.size, 1, none⟩ = some (.int .i64 c.pol) ∧ w'.cell? ⟨w.heap.size, 2, none⟩ = some (.int .i64 c.per) ∧ w'.cell? ⟨w.heap.size, 3, none⟩ = some (.int .i64 c.loss) ∧ w'.cell? ⟨w.heap.size, 4, none⟩ = some (.int .i64 c.bkd) ∧ w'.cell? ⟨w.heap.size, 5, none⟩ = some (.int .i64 c.ev) ∧ w'.cell? ⟨w.heap.size, 6, none⟩ = some (.slice A l.length cap) ∧ w'.cell? ⟨w.heap.size + 1, 0, none⟩ = some (.int .i64 b) ∧ w'.cell? ⟨w.heap.size + 1, 1, none⟩ = some (.int .i64 3) ∧ w'.cell? ⟨w.heap.size + 1, 2, none⟩ = some (.int .i64 m)) (first | with_reducible exact ⟨g0, g1, g2, g3, g4, g5, g6, k0, k1, k2⟩ | with_reducible exact ⟨cell_far7 g0 (by omega), cell_far7 g1 (by omega), cell_far7 g2 (by omega), cell_far7 g3 (by omega), cell_far7 g4 (by omega), cell_far7 g5 (by omega), cell_far7 g6 (by omega), cell_far7 k0 (by omega), cell_far7 k1 (by omega), cell_far7 k2 (by omega)⟩ | go_keep)
           (first
            | (refine step_app rfl (.tmp 87) (.tmp 89) 30 rfl elAc (B := w4.heap.size) (rows := []) (A := some ⟨_, 0, none⟩) (news := l.map encAc) rfl ?_ rfl (by simp) ?_ (okAc l) ?_ ?_ ?_ ?_
               · first | exact own_of_blk (Blk.drew (Blk.new' (by simp))) (by omega) | exact own_of_blk (Blk.drew ((Blk.new' (by simp)).alloc _)) (by omega)
               · refine (HV.out.below (PutR.bel (c := c) (A := A) (n := l.length) (cap := cap) (b := b) (k := 3) (m := m) ?_)).sl
                 repeat (first | exact hW4 | refine PutR.drew ?_ | refine PutR.alloc ?_ _)
               · (simp only [maxLen]; omega)
               · omega
               · first | omega | (simp; done) | (simp; omega)
               intro A1 c1 wa ho1 hg1 ha1
               rw [Nat.zero_add, List.nil_append] at ho1
               rw [Nat.zero_add]
               have hW5 : PutR w c A l.length cap b 3 m wa := PutR.grown (by repeat (first | exact hW4 | refine PutR.drew ?_ | refine PutR.alloc ?_ _)) hg1 (fun j hj => by simp [blk] at hj; omega)
               have g0 := hW5.f.cell 0
               have g1 := hW5.f.cell 1
               have g2 := hW5.f.cell 2
               have g3 := hW5.f.cell 3
               have g4 := hW5.f.cell 4
               have g5 := hW5.f.cell 5
               have g6 := hW5.f.cell 6
               have k0 := hW5.a.cell 0
               have k1 := hW5.a.cell 1
               have k2 := hW5.a.cell 2
               have hz0 := hW5.f.lt
               have hz1 := hW5.a.lt
               have hz2 := hg1.size
               simp [boxC, acC] at g0 g1 g2 g3 g4 g5 g6 k0 k1 k2 hz2)
            | (refine step_app rfl (.tmp 90) (.tmp 92) 30 rfl elAc (B := w4.heap.size) (rows := l.map encAc) (A2 := some ⟨_, 0, none⟩) (news := [⟨b, 3, m⟩].map encAc) rfl ?_ rfl rfl ?_ (okAc [⟨b, 3, m⟩]) ?_ ?_ ?_ ?_
               · first | exact ho1 | exact ho1.alloc _
               · first | exact sl_of_blk (cs := acC b 3 m) (Blk.new _ _ _) | exact sl_of_blk (cs := acC b 3 m) (Blk.grown (Blk.drew (Blk.new' (by simp))) hg1 (by simp [blk])) | exact sl_of_blk (cs := acC b 3 m) (Blk.grown (Blk.drew ((Blk.new' (by simp)).alloc _)) hg1 (by simp [blk]))
               · (simp only [maxLen]; omega)
               · omega
               · first | omega | (simp; done) | (simp; omega)
               intro A2 c2 wb ho2 hg2 ha2
               have hW6 : PutR w c A l.length cap b 3 m wb := PutR.grown (by first | exact hW5 | exact hW5.alloc _) hg2 (fun j hj => by have := (ho1.lt j hj).1; omega)
               have g0 := hW6.f.cell 0
               have g1 := hW6.f.cell 1
               have g2 := hW6.f.cell 2
               have g3 := hW6.f.cell 3
               have g4 := hW6.f.cell 4
               have g5 := hW6.f.cell 5
               have g6 := hW6.f.cell 6
               have k0 := hW6.a.cell 0
               have k1 := hW6.a.cell 1
               have k2 := hW6.a.cell 2
               have x0 := hW6.z.cell 0
               have t0 := hW6.z.frozen 0
               have x1 := hW6.z.cell 1
               have t1 := hW6.z.frozen 1
               have x2 := hW6.z.cell 2
               have t2 := hW6.z.frozen 2
               have x3 := hW6.z.cell 3
               have t3 := hW6.z.frozen 3
               have x4 := hW6.z.cell 4
               have t4 := hW6.z.frozen 4
               have x5 := hW6.z.cell 5
               have t5 := hW6.z.frozen 5
               have x6 := hW6.z.cell 6
               have t6 := hW6.z.frozen 6
               have hzz := hW6.z.lt
               simp [boxC, acC, zeroF] at g0 g1 g2 g3 g4 g5 g6 k0 k1 k2 x0 x1 x2 x3 x4 x5 x6))
          all_goals
            go_wp2_with fail
            exact yesR_post hW6 (by rw [List.map_append]; exact ho2) (by omega) rfl rfl rfl rfl rfl
      · have h2' : (k == 2) = false := by simpa using h2
        have h3' : (k == 3) = false := by simpa using h3
        obtain rfl : code = 0 := hok.out (by omega)
        go_wp2_with fail
        obtain ⟨w4, hw4⟩ : ∃ W, w3.alloc (.cells #[.int .i64 (max g s), .int .i64 s, .int .i64 0, .int .i64 bk, .int .i64 0, .bool true] 42) = W := ⟨_, rfl⟩
        rw [hw4] at hW4 ⊢
        clear hw4 f0 f1 f2 f3 f4 f5 f6 a0 a1 a2 z0 z1 z2 z3 z4 z5 z6 u0 u1 u2 u3 u4 u5 u6 hz0 hz1 hz2
        have f0 := hW4.f.cell 0
        have f1 := hW4.f.cell 1
        have f2 := hW4.f.cell 2
        have f3 := hW4.f.cell 3
        have f4 := hW4.f.cell 4
        have f5 := hW4.f.cell 5
        have f6 := hW4.f.cell 6
        have a0 := hW4.a.cell 0
        have a1 := hW4.a.cell 1
        have a2 := hW4.a.cell 2
        have hz0 := hW4.f.lt
        have hz1 := hW4.a.lt
        have hz2 := hW4.z.lt
        simp [boxC, acC] at f0 f1 f2 f3 f4 f5 f6 a0 a1 a2
        go_region_held3 (fun w' => w'.cell? ⟨w.heap.size, 0, none⟩ = some (.int .i64 c.id) ∧ w'.cell? ⟨w.heap.size, 1, none⟩ = some (.int .i64 c.pol) ∧ w'.cell? ⟨w.heap.size, 2, none⟩ = some (.int .i64 c.per) ∧ w'.cell? ⟨w.heap.size, 3, none⟩ = some (.int .i64 c.loss) ∧ w'.cell? ⟨w.heap.size, 4, none⟩ = some (.int .i64 c.bkd) ∧ w'.cell? ⟨w.heap.size, 5, none⟩ = some (.int .i64 c.ev) ∧ w'.cell? ⟨w.heap.size, 6, none⟩ = some (.slice A l.length cap) ∧ w'.cell? ⟨w.heap.size + 1, 0, none⟩ = some (.int .i64 b) ∧ w'.cell? ⟨w.heap.size + 1, 1, none⟩ = some (.int .i64 k) ∧ w'.cell? ⟨w.heap.size + 1, 2, none⟩ = some (.int .i64 m)) (first | with_reducible exact ⟨g0, g1, g2, g3, g4, g5, g6, k0, k1, k2⟩ | with_reducible exact ⟨cell_far7 g0 (by omega), cell_far7 g1 (by omega), cell_far7 g2 (by omega), cell_far7 g3 (by omega), cell_far7 g4 (by omega), cell_far7 g5 (by omega), cell_far7 g6 (by omega), cell_far7 k0 (by omega), cell_far7 k1 (by omega), cell_far7 k2 (by omega)⟩ | go_keep)
         (first
          | (refine step_app rfl (.tmp 87) (.tmp 89) 30 rfl elAc (B := w4.heap.size) (rows := []) (A := some ⟨_, 0, none⟩) (news := l.map encAc) rfl ?_ rfl (by simp) ?_ (okAc l) ?_ ?_ ?_ ?_
             · first | exact own_of_blk (Blk.drew (Blk.new' (by simp))) (by omega) | exact own_of_blk (Blk.drew ((Blk.new' (by simp)).alloc _)) (by omega)
             · refine (HV.out.below (PutR.bel (c := c) (A := A) (n := l.length) (cap := cap) (b := b) (k := k) (m := m) ?_)).sl
               repeat (first | exact hW4 | refine PutR.drew ?_ | refine PutR.alloc ?_ _)
             · (simp only [maxLen]; omega)
             · omega
             · first | omega | (simp; done) | (simp; omega)
             intro A1 c1 wa ho1 hg1 ha1
             rw [Nat.zero_add, List.nil_append] at ho1
             rw [Nat.zero_add]
             have hW5 : PutR w c A l.length cap b k m wa := PutR.grown (by repeat (first | exact hW4 | refine PutR.drew ?_ | refine PutR.alloc ?_ _)) hg1 (fun j hj => by simp [blk] at hj; omega)
             have g0 := hW5.f.cell 0
             have g1 := hW5.f.cell 1
             have g2 := hW5.f.cell 2
             have g3 := hW5.f.cell 3
             have g4 := hW5.f.cell 4
             have g5 := hW5.f.cell 5
             have g6 := hW5.f.cell 6
             have k0 := hW5.a.cell 0
             have k1 := hW5.a.cell 1
             have k2 := hW5.a.cell 2
             have hz0 := hW5.f.lt
             have hz1 := hW5.a.lt
             have hz2 := hg1.size
             simp [boxC, acC] at g0 g1 g2 g3 g4 g5 g6 k0 k1 k2 hz2)
          | (refine step_app rfl (.tmp 90) (.tmp 92) 30 rfl elAc (B := w4.heap.size) (rows := l.map encAc) (A2 := some ⟨_, 0, none⟩) (news := [⟨b, k, m⟩].map encAc) rfl ?_ rfl rfl ?_ (okAc [⟨b, k, m⟩]) ?_ ?_ ?_ ?_
             · first | exact ho1 | exact ho1.alloc _
             · first | exact sl_of_blk (cs := acC b k m) (Blk.new _ _ _) | exact sl_of_blk (cs := acC b k m) (Blk.grown (Blk.drew (Blk.new' (by simp))) hg1 (by simp [blk])) | exact sl_of_blk (cs := acC b k m) (Blk.grown (Blk.drew ((Blk.new' (by simp)).alloc _)) hg1 (by simp [blk]))
             · (simp only [maxLen]; omega)
             · omega
             · first | omega | (simp; done) | (simp; omega)
             intro A2 c2 wb ho2 hg2 ha2
             have hW6 : PutR w c A l.length cap b k m wb := PutR.grown (by first | exact hW5 | exact hW5.alloc _) hg2 (fun j hj => by have := (ho1.lt j hj).1; omega)
             have g0 := hW6.f.cell 0
             have g1 := hW6.f.cell 1
             have g2 := hW6.f.cell 2
             have g3 := hW6.f.cell 3
             have g4 := hW6.f.cell 4
             have g5 := hW6.f.cell 5
             have g6 := hW6.f.cell 6
             have k0 := hW6.a.cell 0
             have k1 := hW6.a.cell 1
             have k2 := hW6.a.cell 2
             have x0 := hW6.z.cell 0
             have t0 := hW6.z.frozen 0
             have x1 := hW6.z.cell 1
             have t1 := hW6.z.frozen 1
             have x2 := hW6.z.cell 2
             have t2 := hW6.z.frozen 2
             have x3 := hW6.z.cell 3
             have t3 := hW6.z.frozen 3
             have x4 := hW6.z.cell 4
             have t4 := hW6.z.frozen 4
             have x5 := hW6.z.cell 5
             have t5 := hW6.z.frozen 5
             have x6 := hW6.z.cell 6
             have t6 := hW6.z.frozen 6
             have hzz := hW6.z.lt
             simp [boxC, acC, zeroF] at g0 g1 g2 g3 g4 g5 g6 k0 k1 k2 x0 x1 x2 x3 x4 x5 x6))
        all_goals
          go_wp2_with fail
          exact yesR_post hW6 (by rw [List.map_append]; exact ho2) (by omega) rfl rfl rfl rfl rfl
    · obtain rfl : code = 0 := by rw [← HC.out, putC, if_neg (by simp [hr]), if_neg (by omega), if_neg (by rw [hLa]; simp only; omega), if_neg (by rw [HS.out]; simp), if_neg (by simp [overB])]
      go_wp2_with fail
      obtain ⟨w4, hw4⟩ : ∃ W, w3.alloc (.cells #[.int .i64 (max g s), .int .i64 s, .int .i64 0, .int .i64 bk, .int .i64 0, .bool false] 42) = W := ⟨_, rfl⟩
      rw [hw4] at hW4 ⊢
      clear hw4 f0 f1 f2 f3 f4 f5 f6 a0 a1 a2 z0 z1 z2 z3 z4 z5 z6 u0 u1 u2 u3 u4 u5 u6 hz0 hz1 hz2
      have f0 := hW4.f.cell 0
      have f1 := hW4.f.cell 1
      have f2 := hW4.f.cell 2
      have f3 := hW4.f.cell 3
      have f4 := hW4.f.cell 4
      have f5 := hW4.f.cell 5
      have f6 := hW4.f.cell 6
      have a0 := hW4.a.cell 0
      have a1 := hW4.a.cell 1
      have a2 := hW4.a.cell 2
      have hz0 := hW4.f.lt
      have hz1 := hW4.a.lt
      have hz2 := hW4.z.lt
      simp [boxC, acC] at f0 f1 f2 f3 f4 f5 f6 a0 a1 a2
      go_region_held3 (fun w' => w'.cell? ⟨w.heap.size, 0, none⟩ = some (.int .i64 c.id) ∧ w'.cell? ⟨w.heap.size, 1, none⟩ = some (.int .i64 c.pol) ∧ w'.cell? ⟨w.heap.size, 2, none⟩ = some (.int .i64 c.per) ∧ w'.cell? ⟨w.heap.size, 3, none⟩ = some (.int .i64 c.loss) ∧ w'.cell? ⟨w.heap.size, 4, none⟩ = some (.int .i64 c.bkd) ∧ w'.cell? ⟨w.heap.size, 5, none⟩ = some (.int .i64 c.ev) ∧ w'.cell? ⟨w.heap.size, 6, none⟩ = some (.slice A l.length cap) ∧ w'.cell? ⟨w.heap.size + 1, 0, none⟩ = some (.int .i64 b) ∧ w'.cell? ⟨w.heap.size + 1, 1, none⟩ = some (.int .i64 5) ∧ w'.cell? ⟨w.heap.size + 1, 2, none⟩ = some (.int .i64 m)) (first | with_reducible exact ⟨g0, g1, g2, g3, g4, g5, g6, k0, k1, k2⟩ | with_reducible exact ⟨cell_far7 g0 (by omega), cell_far7 g1 (by omega), cell_far7 g2 (by omega), cell_far7 g3 (by omega), cell_far7 g4 (by omega), cell_far7 g5 (by omega), cell_far7 g6 (by omega), cell_far7 k0 (by omega), cell_far7 k1 (by omega), cell_far7 k2 (by omega)⟩ | go_keep)
       (first
        | (refine step_app rfl (.tmp 87) (.tmp 89) 30 rfl elAc (B := w4.heap.size) (rows := []) (A := some ⟨_, 0, none⟩) (news := l.map encAc) rfl ?_ rfl (by simp) ?_ (okAc l) ?_ ?_ ?_ ?_
           · first | exact own_of_blk (Blk.drew (Blk.new' (by simp))) (by omega) | exact own_of_blk (Blk.drew ((Blk.new' (by simp)).alloc _)) (by omega)
           · refine (HV.out.below (PutR.bel (c := c) (A := A) (n := l.length) (cap := cap) (b := b) (k := 5) (m := m) ?_)).sl
             repeat (first | exact hW4 | refine PutR.drew ?_ | refine PutR.alloc ?_ _)
           · (simp only [maxLen]; omega)
           · omega
           · first | omega | (simp; done) | (simp; omega)
           intro A1 c1 wa ho1 hg1 ha1
           rw [Nat.zero_add, List.nil_append] at ho1
           rw [Nat.zero_add]
           have hW5 : PutR w c A l.length cap b 5 m wa := PutR.grown (by repeat (first | exact hW4 | refine PutR.drew ?_ | refine PutR.alloc ?_ _)) hg1 (fun j hj => by simp [blk] at hj; omega)
           have g0 := hW5.f.cell 0
           have g1 := hW5.f.cell 1
           have g2 := hW5.f.cell 2
           have g3 := hW5.f.cell 3
           have g4 := hW5.f.cell 4
           have g5 := hW5.f.cell 5
           have g6 := hW5.f.cell 6
           have k0 := hW5.a.cell 0
           have k1 := hW5.a.cell 1
           have k2 := hW5.a.cell 2
           have hz0 := hW5.f.lt
           have hz1 := hW5.a.lt
           have hz2 := hg1.size
           simp [boxC, acC] at g0 g1 g2 g3 g4 g5 g6 k0 k1 k2 hz2)
        | (refine step_app rfl (.tmp 90) (.tmp 92) 30 rfl elAc (B := w4.heap.size) (rows := l.map encAc) (A2 := some ⟨_, 0, none⟩) (news := [⟨b, 5, m⟩].map encAc) rfl ?_ rfl rfl ?_ (okAc [⟨b, 5, m⟩]) ?_ ?_ ?_ ?_
           · first | exact ho1 | exact ho1.alloc _
           · first | exact sl_of_blk (cs := acC b 5 m) (Blk.new _ _ _) | exact sl_of_blk (cs := acC b 5 m) (Blk.grown (Blk.drew (Blk.new' (by simp))) hg1 (by simp [blk])) | exact sl_of_blk (cs := acC b 5 m) (Blk.grown (Blk.drew ((Blk.new' (by simp)).alloc _)) hg1 (by simp [blk]))
           · (simp only [maxLen]; omega)
           · omega
           · first | omega | (simp; done) | (simp; omega)
           intro A2 c2 wb ho2 hg2 ha2
           have hW6 : PutR w c A l.length cap b 5 m wb := PutR.grown (by first | exact hW5 | exact hW5.alloc _) hg2 (fun j hj => by have := (ho1.lt j hj).1; omega)
           have g0 := hW6.f.cell 0
           have g1 := hW6.f.cell 1
           have g2 := hW6.f.cell 2
           have g3 := hW6.f.cell 3
           have g4 := hW6.f.cell 4
           have g5 := hW6.f.cell 5
           have g6 := hW6.f.cell 6
           have k0 := hW6.a.cell 0
           have k1 := hW6.a.cell 1
           have k2 := hW6.a.cell 2
           have x0 := hW6.z.cell 0
           have t0 := hW6.z.frozen 0
           have x1 := hW6.z.cell 1
           have t1 := hW6.z.frozen 1
           have x2 := hW6.z.cell 2
           have t2 := hW6.z.frozen 2
           have x3 := hW6.z.cell 3
           have t3 := hW6.z.frozen 3
           have x4 := hW6.z.cell 4
           have t4 := hW6.z.frozen 4
           have x5 := hW6.z.cell 5
           have t5 := hW6.z.frozen 5
           have x6 := hW6.z.cell 6
           have t6 := hW6.z.frozen 6
           have hzz := hW6.z.lt
           simp [boxC, acC, zeroF] at g0 g1 g2 g3 g4 g5 g6 k0 k1 k2 x0 x1 x2 x3 x4 x5 x6))
      all_goals
        go_wp2_with fail
        exact yesR_post hW6 (by rw [List.map_append]; exact ho2) (by omega) rfl rfl rfl rfl rfl
end Go.Proofs.Ytmeneojgdbjlnaa
