/- Part 31 of the proof. -/
import Derived.WalkMore
import Derived.ScopeJumps
import Derived.Test.YtmfohnchnbgbaaaGreatKnM03
import Derived.Test.YtmfohnchnbgbaaaGreatKnM09
import Derived.Test.YtmfohnchnbgbaaaGreatKnM30
/- What is earned by when: the error that is told on. -/
namespace Go.Proofs.YtmfohnchnbgbaaaGreat
open Go.RowKit

theorem addV_nn {d v : Int} {s : List Int × List Int} (h : ∀ x ∈ s.2, 0 ≤ x) (hv : 0 ≤ v) : ∀ x ∈ (addV d v s).2, 0 ≤ x := by
  have h1 : ∀ x ∈ (popV d s).2, 0 ≤ x := by
    unfold popV
    split
    · exact fun x hx => h x (List.dropLast_subset _ hx)
    · exact h
  unfold addV pushV
  split
  · intro x hx
    rcases List.mem_append.1 hx with hx | hx
    · exact h1 x hx
    · rw [List.mem_singleton] at hx; omega
  · exact h1
theorem chain_nn : ∀ {l : List Sc} {e : Int}, chainS e l = true → ∀ x ∈ l, 0 ≤ x.y
  | x :: r, e, h, y, hy => by
    rw [chainS, Bool.and_eq_true] at h
    rcases List.mem_cons.1 hy with rfl | hy
    · have := h.1; simp [fullA] at this; omega
    · exact chain_nn h.2 y hy
theorem fold_nn : ∀ (l : List Sc) (s : List Int × List Int), (∀ x ∈ l, 0 ≤ x.y) → (∀ x ∈ s.2, 0 ≤ x) → ∀ x ∈ (l.foldl stF s).2, 0 ≤ x
  | [], s, _, h => h
  | x :: r, s, hl, h => fold_nn r _ (fun y hy => hl y (by simp [hy])) (addV_nn (addV_nn h (hl x (by simp))) (Int.le_refl _))
theorem curF_nn {l : List Sc} (h : curK l = 0) : (∀ x ∈ (curF l).2, 0 ≤ x) ∧ (curF l).1.length ≤ 4000 ∧ l.length ≤ 2000 := by
  rw [curK] at h
  split at h
  · cases h
  split at h
  · rename_i h1 h2
    have := curF_len l
    exact ⟨fold_nn l _ (chain_nn h2) (by simp), by omega, by omega⟩
  · cases h
def UptoQ (l : List Sc) (d : Int) : Int × Int := if curK l = 0 then uptoQ (curF l).1 (curF l).2 d else (0, 1)
theorem told_box (G : Nat) (x k : Int) (older : List PanicEntry) (w : World) (hb : Blk w G 31 #[.int .i64 x]) :
    CallsD Tryz.prog 46 #[.pointer (some ⟨G, 0, none⟩)] (.panicking ({ v := .iface 31 (.int .i64 k), recovered := false } :: older)) w fun e u' w' =>
      e = .returned (.tuple #[]) ∧ u' = .panicking ({ v := .iface 31 (.int .i64 k), recovered := true } :: older) ∧ w' = w.setCell ⟨G, 0, none⟩ (.int .i64 k) := told_no _ x k older w (hb.cell 0) (hb.frozen 0)
set_option maxRecDepth 100000 in
set_option maxHeartbeats 4000000 in
theorem Upto_any (HADD : AddcAny) (A : Option Addr) (cap n : Nat) (l : List Sc) (d : Int) (w : World) (hs : SV w 9 A n cap (l.map encSc)) :
    Calls Tryz.prog 20 #[.slice A n cap, .int .i64 d] w fun e w' => e = .returned (.tuple #[.int .i64 (UptoQ l d).1, .int .i64 (UptoQ l d).2]) ∧ Below w.heap.size w w' := by
  obtain ⟨w1, hw1⟩ : ∃ W, w.alloc (.cells #[.int .i64 0] 31) = W := ⟨_, rfl⟩
  have H1 := hide (show Below w.heap.size w w1 by rw [← hw1]; exact (Below.refl _ _).alloc (Nat.le_refl _) _)
  have HB1 := hide (show Blk w1 w.heap.size 31 #[.int .i64 0] by rw [← hw1]; exact Blk.new _ _ _)
  have hz1 : w.heap.size < w1.heap.size := HB1.out.lt
  have HCU := hide (curve_any HADD A cap n l w1 (hs.below H1.out))
  have HW1 := hide hw1
  clear hw1 hs
  go_enter_defers Tryz.func20, Tryz.ntmps20
  go_upto_region 1 with fail
  rw [show w.alloc (.cells #[.int .i64 0] 31) = w1 from HW1.out]
  go_wp2_with fail
  refine HCU.out.mono ?_
  rintro e w2 ⟨h2, hr⟩
  have HB2 := hide (HB1.out.below h2 hz1)
  have H2 := hide (chain H1.out h2)
  have hz2 := HB2.out.lt
  clear h2
  rcases hr with ⟨hk, rfl⟩ | ⟨hk, A1, A2, c1, c2, rfl, hs1, hs2⟩
  · have HQ := hide (show UptoQ l d = (0, 1) by rw [UptoQ, if_neg (by omega)])
    clear hk
    simp only [pan]
    go_wp2_with fail
    refine leaves_cons (f := 46) (args := #[.pointer (some ⟨w.heap.size, 0, none⟩)]) (by simp) (by simp [go_sem]) ?_
    refine (told_box _ 0 1 [] _ HB2.out).mono ?_
    rintro e u' w'' ⟨rfl, rfl, rfl⟩
    have ob := (HB2.out.set_ 0 (.int .i64 1)).cell 0
    simp at ob
    simp only [settle, List.dropWhile]
    simp only [Leaves, results, Tryz.results20, go_sem]
    simp [ob]
    exact ⟨by rw [HQ.out]; exact ⟨rfl, rfl⟩, H2.out.setCell (by simp) _⟩
  · have hnn := curF_nn hk
    have HQ := hide (show UptoQ l d = uptoQ (curF l).1 (curF l).2 d by rw [UptoQ, if_pos hk])
    have HUP := hide (upto_any A1 A2 _ _ c1 c2 (curF l).1 (curF l).2 d w2 hs1 hs2 (by omega) hnn.1)
    clear hk hnn hs1 hs2
    go_wp2_with fail
    refine HUP.out.mono ?_
    rintro e w3 ⟨he, h3⟩
    have HB3 := hide (HB2.out.below h3 hz2)
    have H3 := hide (chain H2.out h3)
    have hz3 := HB3.out.lt
    have f0 := HB3.out.frozen 0
    have y0 := HB3.out.cell 0
    simp at y0
    clear h3
    rcases he with ⟨hk, rfl⟩ | ⟨hk, hk0, rfl⟩
    · go_wp2_with fail
      refine leaves_cons (f := 46) (args := #[.pointer (some ⟨w.heap.size, 0, none⟩)]) (by simp) (by simp [go_sem]) ?_
      refine (told_ok _ _).mono ?_
      rintro e u' w'' ⟨rfl, rfl, rfl⟩
      have ob := (HB3.out.set_ 0 (.int .i64 0)).cell 0
      simp at ob
      simp only [settle]
      simp only [Leaves, results, Tryz.results20, go_sem]
      simp [ob]
      exact ⟨by rw [HQ.out]; exact ⟨rfl, hk.symm⟩, H3.out.setCell (by simp) _⟩
    · obtain ⟨q, hq⟩ : ∃ q, (uptoQ (curF l).1 (curF l).2 d).2 = q := ⟨_, rfl⟩
      rw [hq]
      simp only [pan]
      go_wp2_with fail
      refine leaves_cons (f := 46) (args := #[.pointer (some ⟨w.heap.size, 0, none⟩)]) (by simp) (by simp [go_sem]) ?_
      refine (told_box _ 0 q [] _ HB3.out).mono ?_
      rintro e u' w'' ⟨rfl, rfl, rfl⟩
      have ob := (HB3.out.set_ 0 (.int .i64 q)).cell 0
      simp at ob
      simp only [settle, List.dropWhile]
      simp only [Leaves, results, Tryz.results20, go_sem]
      simp [ob]
      exact ⟨by rw [HQ.out]; exact ⟨hk0.symm, hq.symm⟩, H3.out.setCell (by simp) _⟩
end Go.Proofs.YtmfohnchnbgbaaaGreat

/- What is due: the last cancel or revival. -/
namespace Go.Proofs.YtmfohnchnbgbaaaGreat
open Go.RowKit

/-- A scope with one label: the way from the label on is shown once. -/
theorem wp_scope_once {P : Program} {a : Act} {w : World} {Q : Exit → Act → World → Prop} {c body : Code} (l : Nat) (J : Act → World → Prop) (μ : Act → World → Nat) (hf : findLabel c l = some (Code.seq .skip body))
    (pass : ∀ a w, J a w → body.wp P (Exit.jump l (fun a' w' => J a' w' ∧ μ a' w' < μ a w) Q) a w)
    (first : (∀ a w, J a w → body.wp P (Exit.jump l J Q) a w) → c.wp P (Exit.jump l J Q) a w) : (Code.scope c).wp P Q a w :=
  wp_scope_jumps l J μ hf (first fun a w h => Code.wp_mono (fun e a' w' hq => by
    cases e with
    | goto l' => exact ⟨hq.1, hq.2.1⟩
    | _ => exact hq) (pass a w h)) fun a w h => wp_seq (wp_skip (pass a w h))
/-- The last place of the order, from its end on, that is a cancel or a revival. -/
def turnR (cs : List Ch) : List Nat → Int × Bool
  | [] => (0, false)
  | o :: r => match cs[o]? with
    | some c => if c.k = 3 ∨ c.k = 4 then ((o : Int), true) else turnR cs r
    | none => turnR cs r
theorem rev_take {O : List Nat} {k o : Nat} (h : O[k]? = some o) : (O.take (k + 1)).reverse = o :: (O.take k).reverse := by rw [take_of h]; simp
def TurnJ (h : Hi) (O : List Nat) (w : World) (k : Nat) (A : Option Addr) (cap : Nat) (w' : World) : Prop :=
  k ≤ O.length ∧ turnR h.cs (O.take k).reverse = turnR h.cs O.reverse ∧ SV w' 1 A O.length cap (O.map encN) ∧ Blk w' w.heap.size 65 (hiC h) ∧ Below w.heap.size w w'
set_option maxRecDepth 100000 in
set_option maxHeartbeats 4000000 in
theorem turn_any (h : Hi) (O : List Nat) (w : World) (hv : HV w h) (hO : ∀ (j o : Nat), O[j]? = some o → ∃ c, h.cs[o]? = some c)
    (hord : ∀ W, Below w.heap.size w W → Calls Tryz.prog 80 #[.agg #[.int .i64 h.id, .int .i64 h.bk, .int .i64 h.tm.f, .int .i64 h.tm.t, .int .i64 h.tm.k, .int .i64 h.tm.v, .int .i64 h.tm.a, .int .i64 h.tm.z, .slice h.tm.A h.tm.l.length h.tm.cap, .slice h.A h.cs.length h.cap]] W (OrdP O W)) :
    Calls Tryz.prog 82 #[.agg #[.int .i64 h.id, .int .i64 h.bk, .int .i64 h.tm.f, .int .i64 h.tm.t, .int .i64 h.tm.k, .int .i64 h.tm.v, .int .i64 h.tm.a, .int .i64 h.tm.z, .slice h.tm.A h.tm.l.length h.tm.cap, .slice h.A h.cs.length h.cap]] w fun e w' => e = .returned (.tuple #[.int .i64 (turnR h.cs O.reverse).1, .bool (turnR h.cs O.reverse).2]) ∧ Below w.heap.size w w' := by
  obtain ⟨w1, hw1⟩ : ∃ W, w.alloc (.cells (hiC h) 65) = W := ⟨_, rfl⟩
  have H1 := hide (show Below w.heap.size w w1 by rw [← hw1]; exact (Below.refl _ _).alloc (Nat.le_refl _) _)
  have HB1 := hide (show Blk w1 w.heap.size 65 (hiC h) by rw [← hw1]; exact Blk.new _ _ _)
  obtain ⟨x0, x1, x2, x3, x4, x5, x6, x7, x8, x9⟩ := hi_cells HB1.out
  have HV1 := hide hv
  have HO := hide hO
  have HW1 := hide hw1
  have HORD := hide (hord w1 H1.out)
  obtain ⟨R, hR⟩ : ∃ R, turnR h.cs O.reverse = R := ⟨_, rfl⟩
  rw [hR]
  have HR := hide hR
  clear hw1 hv hO hord hR
  go_enter Tryz.func82, Tryz.ntmps82
  go_wp2_with fail
  refine wp_scope_once 0 (fun a' w' => ∃ (k : Nat) (A : Option Addr) (cap : Nat) (u6 u7 u8 u9 u10 u11 u12 u13 u14 u15 u16 u17 u18 u19 u20 u21 u22 u23 u24 u25 u26 u27 u28 u29 u30 u31 u32 u33 : Value), a' = { tmps := #[.agg #[.int .i64 h.id, .int .i64 h.bk, .int .i64 h.tm.f, .int .i64 h.tm.t, .int .i64 h.tm.k, .int .i64 h.tm.v, .int .i64 h.tm.a, .int .i64 h.tm.z, .slice h.tm.A h.tm.l.length h.tm.cap, .slice h.A h.cs.length h.cap], .pointer (some ⟨w.heap.size, 0, none⟩), .int .i64 0, .bool false, .slice A O.length cap, .int .i64 k, u6, u7, u8, u9, u10, u11, u12, u13, u14, u15, u16, u17, u18, u19, u20, u21, u22, u23, u24, u25, u26, u27, u28, u29, u30, u31, u32, u33], defers := [] } ∧ TurnJ h O w k A cap w') (fun a' _ => (intOf (a'.tmps.getD 5 undef)).toNat) rfl ?_ ?_
  · rintro a' w' ⟨k, A, cap, u6, u7, u8, u9, u10, u11, u12, u13, u14, u15, u16, u17, u18, u19, u20, u21, u22, u23, u24, u25, u26, u27, u28, u29, u30, u31, u32, u33, rfl, hk, ht, hs, hb, hbe⟩
    rw [HR.out] at ht
    have HV := hide (HV1.out.below hbe)
    have HBE := hide hbe
    have HS := hide hs
    have HBK := hide hb
    obtain ⟨x0, x1, x2, x3, x4, x5, x6, x7, x8, x9⟩ := hi_cells hb
    clear hs hb hbe
    rcases Nat.eq_zero_or_pos k with rfl | hkp
    · have hR0 : R = (0, false) := ht.symm
      clear ht x0 x1 x2 x3 x4 x5 x6 x7 x8 x9
      go_wp2_with fail
      simp only [Exit.jump]
      go_ret2
      rw [hR0]
      exact ⟨rfl, HBE.out⟩
    · obtain ⟨m, rfl⟩ : ∃ m, k = m + 1 := ⟨k - 1, by omega⟩
      obtain ⟨o, ho⟩ := get_of (l := O) (k := m) (by omega)
      obtain ⟨c, hc⟩ := HO.out m o ho
      rw [rev_take ho, turnR, hc] at ht
      simp only at ht
      obtain ⟨b, off, rfl, -, hco⟩ := HS.out.sl m (encN o) (by simp [ho])
      have oc := hco 0 _ rfl
      rw [Nat.mul_one, Nat.add_zero] at oc
      obtain ⟨bc, co, hAc, hbc, a0, a1, a2, a3, a4, a5, a6, a7, a8⟩ := HV.out.cs.sl.ch hc
      rw [hAc] at x9
      have hm0 : (0 : Int) ≤ (m : Int) := by omega
      have hm1 : (m : Int) < (O.length : Int) := by omega
      have hm2 : ((m + 1 : Nat) : Int) - 1 = (m : Int) := by omega
      have hm3 : ((((m + 1 : Nat) : Int) == 0) = false) := by simp; omega
      have ho0 : (0 : Int) ≤ (o : Int) := by omega
      have ho1 : (o : Int) < (h.cs.length : Int) := by have := lt_of_get hc; omega
      have hcl := HV.out.cs.le
      have hOl := HS.out.most
      unfold maxLen at hOl
      have hOl2 := HS.out.le
      have HT := hide ht
      clear ht ho hc hco hAc a0 a1 a3 a4 a5 a6 a7 a8 hkp
      by_cases hc3 : c.k = 3 ∨ c.k = 4
      · have hR1 : R = ((o : Int), true) := by have := HT.out; rw [if_pos hc3] at this; exact this.symm
        obtain ⟨K, hK⟩ : ∃ K, c.k = K := ⟨_, rfl⟩
        rw [hK] at a2 hc3
        rcases hc3 with rfl | rfl
        · go_wp2_with fail
          go_region
          go_wp2_with fail
          simp only [Exit.jump]
          go_ret2
          rw [hR1]
          exact ⟨rfl, HBE.out.drew⟩
        · go_wp2_with fail
          go_region
          go_wp2_with fail
          simp only [Exit.jump]
          go_ret2
          rw [hR1]
          exact ⟨rfl, HBE.out.drew⟩
      · have hR1 : turnR h.cs (O.take m).reverse = R := by have := HT.out; rw [if_neg hc3] at this; exact this
        have h3 : (c.k != 3) = true := by simp; omega
        have h4 : (c.k != 4) = true := by simp; omega
        go_wp2_with fail
        go_region
        go_wp2_with fail
        go_step3
        refine ⟨rfl, ⟨m, _, cap, _, _, _, _, _, _, _, _, _, _, _, _, _, _, _, _, _, _, _, _, _, _, _, _, _, _, _, _, rfl, by omega, by rw [HR.out]; exact hR1, HS.out.below (Below.refl _ _).drew, HBK.out.below (Below.refl w'.heap.size _).drew HBK.out.lt, HBE.out.drew⟩, ?_⟩
        simp [intOf]
        try omega
  · intro hbody
    go_upto_region 1 with fail
    rw [show w.alloc (.cells #[.int .i64 h.id, .int .i64 h.bk, .int .i64 h.tm.f, .int .i64 h.tm.t, .int .i64 h.tm.k, .int .i64 h.tm.v, .int .i64 h.tm.a, .int .i64 h.tm.z, .slice h.tm.A h.tm.l.length h.tm.cap, .slice h.A h.cs.length h.cap] 65) = w1 from HW1.out]
    go_wp2_with fail
    refine HORD.out.mono ?_
    rintro e w2 ⟨A, cap, rfl, hs, -, h2⟩
    have HS2 := hide hs
    have H12 := hide h2
    have HBD := hide hbody
    clear h2 hs hbody x0 x1 x2 x3 x4 x5 x6 x7 x8 x9
    go_wp2_with fail
    go_step3
    rename_i hK
    exact hK _ _ (HBD.out _ _ ⟨O.length, A, cap, _, _, _, _, _, _, _, _, _, _, _, _, _, _, _, _, _, _, _, _, _, _, _, _, _, _, _, _, rfl, Nat.le_refl _, by rw [List.take_of_length_le (Nat.le_refl _)], HS2.out, HB1.out.below H12.out (HB1.out.lt), chain H1.out H12.out⟩)
end Go.Proofs.YtmfohnchnbgbaaaGreat

/- A product divided, to the nearest one: the document's. -/
namespace Go.Proofs.YtmfohnchnbgbaaaGreat
open Go.RowKit

/-- q and l are n by c. -/
def Divs (n c q l : Nat) : Prop := q * c + l = n ∧ l < c
theorem Divs.eq {n c q l : Nat} (h : Divs n c q l) : n / c = q ∧ n % c = l := by
  obtain ⟨h1, h2⟩ := h
  have hc : 0 < c := Nat.lt_of_le_of_lt (Nat.zero_le _) h2
  subst h1
  constructor
  · rw [Nat.add_comm, Nat.add_mul_div_right _ _ hc, Nat.div_eq_of_lt h2, Nat.zero_add]
  · rw [Nat.add_comm, Nat.add_mul_mod_self_right, Nat.mod_eq_of_lt h2]
theorem Divs.two_lo {n c q l : Nat} (h : Divs n c q l) (hl : ¬ c ≤ 2 * l) : Divs (2 * n) c (2 * q) (2 * l) := by
  obtain ⟨h1, h2⟩ := h
  refine ⟨?_, by omega⟩
  rw [Nat.mul_assoc]
  generalize q * c = z at *
  omega
theorem Divs.two_hi {n c q l : Nat} (h : Divs n c q l) (hl : c ≤ 2 * l) : Divs (2 * n) c (2 * q + 1) (2 * l - c) := by
  obtain ⟨h1, h2⟩ := h
  refine ⟨?_, by omega⟩
  rw [Nat.add_mul, Nat.mul_assoc, Nat.one_mul]
  generalize q * c = z at *
  omega
theorem Divs.add_lo {n m c q l x y : Nat} (h : Divs n c q l) (h' : Divs m c x y) (hl : ¬ c ≤ l + y) : Divs (n + m) c (q + x) (l + y) := by
  obtain ⟨h1, h2⟩ := h
  obtain ⟨h3, h4⟩ := h'
  refine ⟨?_, by omega⟩
  rw [Nat.add_mul]
  generalize q * c = z at *
  generalize x * c = u at *
  omega
theorem Divs.add_hi {n m c q l x y : Nat} (h : Divs n c q l) (h' : Divs m c x y) (hl : c ≤ l + y) : Divs (n + m) c (q + x + 1) (l + y - c) := by
  obtain ⟨h1, h2⟩ := h
  obtain ⟨h3, h4⟩ := h'
  refine ⟨?_, by omega⟩
  rw [Nat.add_mul, Nat.add_mul, Nat.one_mul]
  generalize q * c = z at *
  generalize x * c = u at *
  omega

/-- What Two answers. -/
def TwoP (a b c : Nat) (e : Ending) : Prop :=
  (a * b / c ≤ 4000000000000000000 ∧ e = .returned (.tuple #[.int .i64 ((a * b / c : Nat) : Int), .int .i64 ((a * b % c : Nat) : Int), .bool true])) ∨ (4000000000000000000 < a * b / c ∧ e = .returned (.tuple #[.int .i64 0, .int .i64 0, .bool false]))
theorem fin_yes {a b c q l : Nat} (h : Divs (b * (a / 2 ^ 0)) c q l) (hq : q ≤ 4000000000000000000) : TwoP a b c (.returned (.tuple #[.int .i64 (q : Int), .int .i64 (l : Int), .bool true])) := by
  rw [Nat.pow_zero, Nat.div_one, Nat.mul_comm] at h
  obtain ⟨h1, h2⟩ := h.eq
  exact .inl ⟨by rw [h1]; exact hq, by rw [h1, h2]⟩
theorem fin_no {a b c v q l : Nat} (hva : v ≤ a) (h : Divs (b * v) c q l) (hq : 4000000000000000000 < q) : TwoP a b c (.returned (.tuple #[.int .i64 0, .int .i64 0, .bool false])) := by
  obtain ⟨h1, _⟩ := h.eq
  have h2 : b * v / c ≤ a * b / c := Nat.div_le_div_right (by rw [Nat.mul_comm a]; exact Nat.mul_le_mul_left _ hva)
  exact .inr ⟨by omega, rfl⟩
end Go.Proofs.YtmfohnchnbgbaaaGreat

/- A product divided, to the nearest one: the document's Even. -/
namespace Go.Proofs.YtmfohnchnbgbaaaGreat
open Go.RowKit

end Go.Proofs.YtmfohnchnbgbaaaGreat

/- How years develop, and what they become, with plain numbers. -/
namespace Go.Proofs.YtmfohnchnbgbaaaGreat

/-- A cell, as a natural number. -/
def celN (l : List Int) (k : Nat) : Nat := (l[k]?.getD 0).toNat
/-- What one year of development had, and had before. -/
def colS (k : Nat) : List (List Int) → Nat × Nat
  | [] => (0, 0)
  | l :: r => let s := colS k r; if k + 1 < l.length then (celN l (k + 1) + s.1, celN l k + s.2) else s
theorem colS_app (k : Nat) : ∀ (a b : List (List Int)), colS k (a ++ b) = ((colS k a).1 + (colS k b).1, (colS k a).2 + (colS k b).2)
  | [], b => by simp [colS]
  | l :: r, b => by
    rw [List.cons_append, colS, colS, colS_app k r b]
    split <;> simp <;> omega
theorem colS_take {c : List (List Int)} {i k : Nat} {l : List Int} (h : c[i]? = some l) : colS k (c.take (i + 1)) = if k + 1 < l.length then ((colS k (c.take i)).1 + celN l (k + 1), (colS k (c.take i)).2 + celN l k) else colS k (c.take i) := by
  rw [take_of h, colS_app]
  simp only [colS]
  split <;> simp
/-- How one year of development develops. -/
def facK (c : List (List Int)) (k : Nat) : Nat × Nat := if (colS k c).2 = 0 then (1, 1) else colS k c
def facL (c : List (List Int)) : List (Nat × Nat) := (List.range (c.length - 1)).map (facK c)
theorem facL_len (c : List (List Int)) : (facL c).length = c.length - 1 := by simp [facL]
theorem facL_get {c : List (List Int)} {k : Nat} (h : k < c.length - 1) : (facL c)[k]? = some (facK c k) := by
  simp [facL, List.getElem?_range h]
/-- All rows' cells are of their size. -/
def OkC (c : List (List Int)) : Prop := c.length ≤ 20 ∧ ∀ l ∈ c, ∀ v ∈ l, 0 ≤ v ∧ v ≤ 100000000000000000
theorem right_okC {f : Int} {c : List (List Int)} (h : rightC f c = true) : OkC c := by
  have h0 := h
  rw [rightC, Bool.and_eq_true] at h
  obtain ⟨h1, h2⟩ := h
  rw [boundsB, decide_eq_true_eq] at h1
  refine ⟨h1.2.1, fun l hl v hv => ?_⟩
  obtain ⟨i, hi, he⟩ := List.getElem_of_mem hl
  have h3 := (rowsB_iff c c.length).1 h2 i l (by rw [List.getElem?_eq_getElem hi, he])
  rw [goodRow, Bool.and_eq_true] at h3
  have h4 := List.all_eq_true.1 h3.2 v hv
  rw [okV, decide_eq_true_eq] at h4
  exact h4
theorem celN_le {l : List Int} (h : ∀ v ∈ l, 0 ≤ v ∧ v ≤ 100000000000000000) (k : Nat) : celN l k ≤ 100000000000000000 := by
  unfold celN
  cases hk : l[k]? with
  | none => simp
  | some v => have := h v (List.mem_of_getElem? hk); simp only [Option.getD_some]; omega
theorem celN_eq {l : List Int} {k : Nat} {v : Int} (h : ∀ v ∈ l, 0 ≤ v ∧ v ≤ 100000000000000000) (hk : l[k]? = some v) : v = (celN l k : Int) := by
  have := h v (List.mem_of_getElem? hk)
  unfold celN
  rw [hk]
  simp only [Option.getD_some]
  omega
theorem colS_le : ∀ {c : List (List Int)} (k : Nat), (∀ l ∈ c, ∀ v ∈ l, 0 ≤ v ∧ v ≤ 100000000000000000) → (colS k c).1 ≤ 100000000000000000 * c.length ∧ (colS k c).2 ≤ 100000000000000000 * c.length
  | [], k, _ => by simp [colS]
  | l :: r, k, h => by
    obtain ⟨h1, h2⟩ := colS_le (c := r) k (fun m hm => h m (by simp [hm]))
    have h3 := celN_le (h l (by simp)) (k + 1)
    have h4 := celN_le (h l (by simp)) k
    rw [colS, List.length_cons, Nat.mul_add]
    split
    · constructor
      · show celN l (k + 1) + (colS k r).1 ≤ _; omega
      · show celN l k + (colS k r).2 ≤ _; omega
    · constructor
      · show (colS k r).1 ≤ _; omega
      · show (colS k r).2 ≤ _; omega
theorem facK_le {c : List (List Int)} (h : OkC c) (k : Nat) : (facK c k).1 ≤ 2000000000000000000 ∧ (facK c k).2 ≤ 2000000000000000000 ∧ 0 < (facK c k).2 := by
  obtain ⟨h1, h2⟩ := colS_le k h.2
  have h3 := h.1
  unfold facK
  split
  · simp
  · rename_i h0
    exact ⟨by omega, by omega, by omega⟩

/-- An amount gone on with; what is amiss. -/
def growN (amt : Nat) : List (Nat × Nat) → Nat × Int
  | [] => (amt, 0)
  | r :: l => if evE amt r.1 r.2 = 0 then growN (evQ amt r.1 r.2) l else (0, evE amt r.1 r.2)
theorem evE_cases (a b c : Nat) : evE a b c = 0 ∨ evE a b c = 5 := by unfold evE; split <;> simp
theorem evQ_le (a b c : Nat) : evQ a b c ≤ 4000000000000000000 := by unfold evQ; split <;> omega
/-- What the years become: the amounts, as long as none is amiss; what is amiss. -/
def allN (F : List (Nat × Nat)) : List (List Int) → List Nat × Int
  | [] => ([], 0)
  | l :: r => let g := growN (celN l (l.length - 1)) (F.drop (l.length - 1)); if g.2 = 0 then (let s := allN F r; if s.2 = 0 then (g.1 :: s.1, 0) else ([], s.2)) else ([], g.2)
def ultN (c : List (List Int)) : List Nat × Int := allN (facL c) c
end Go.Proofs.YtmfohnchnbgbaaaGreat
