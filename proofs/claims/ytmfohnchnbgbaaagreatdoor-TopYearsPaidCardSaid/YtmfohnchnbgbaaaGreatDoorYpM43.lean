/- Part 43 of the proof. -/
import Derived.WalkMore
import Derived.ScopeJumps
import Derived.Test.YtmfohnchnbgbaaaGreatDoorYpM14
import Derived.Test.YtmfohnchnbgbaaaGreatDoorYpM37
import Derived.Test.YtmfohnchnbgbaaaGreatDoorYpM42
/- What is due: the last cancel or revival. -/
namespace Go.Proofs.YtmfohnchnbgbaaaGreatDoor
open Go.RowKit

/-- A scope with one label: the way from the label on is shown once. -/
theorem wp_scope_once {P : Program} {a : Act} {w : World} {Q : Exit → Act → World → Prop} {c body : Code} (l : Nat) (J : Act → World → Prop) (μ : Act → World → Nat) (hf : findLabel c l = some (Code.seq .skip body))
    (pass : ∀ a w, J a w → body.wp P (Exit.jump l (fun a' w' => J a' w' ∧ μ a' w' < μ a w) Q) a w)
    (first : (∀ a w, J a w → body.wp P (Exit.jump l J Q) a w) → c.wp P (Exit.jump l J Q) a w) : (Code.scope c).wp P Q a w :=
  wp_scope_jumps l J μ hf (first fun a w h => Code.wp_mono (fun e a' w' hq => by
    cases e with
    | goto l' => exact ⟨hq.1, hq.2.1⟩
    | _ => exact hq) (pass a w h)) fun a w h => wp_seq (wp_skip (pass a w h))
/-- The last place of the order, from its end on, that is a cancel or a revival. -/
def turnR (cs : List Ch) : List Nat → Int × Bool
  | [] => (0, false)
  | o :: r => match cs[o]? with
    | some c => if c.k = 3 ∨ c.k = 4 then ((o : Int), true) else turnR cs r
    | none => turnR cs r
theorem rev_take {O : List Nat} {k o : Nat} (h : O[k]? = some o) : (O.take (k + 1)).reverse = o :: (O.take k).reverse := by rw [take_of h]; simp
def TurnJ (h : Hi) (O : List Nat) (w : World) (k : Nat) (A : Option Addr) (cap : Nat) (w' : World) : Prop :=
  k ≤ O.length ∧ turnR h.cs (O.take k).reverse = turnR h.cs O.reverse ∧ SV w' 1 A O.length cap (O.map encN) ∧ Blk w' w.heap.size 64 (hiC h) ∧ Below w.heap.size w w'
set_option maxRecDepth 100000 in
set_option maxHeartbeats 4000000 in
theorem turn_any (h : Hi) (O : List Nat) (w : World) (hv : HV w h) (hO : ∀ (j o : Nat), O[j]? = some o → ∃ c, h.cs[o]? = some c)
    (hord : ∀ W, Below w.heap.size w W → Calls Tryz.prog 74 #[.agg #[.int .i64 h.id, .int .i64 h.bk, .int .i64 h.tm.f, .int .i64 h.tm.t, .int .i64 h.tm.k, .int .i64 h.tm.v, .int .i64 h.tm.a, .int .i64 h.tm.z, .slice h.tm.A h.tm.l.length h.tm.cap, .slice h.A h.cs.length h.cap]] W (OrdP O W)) :
    Calls Tryz.prog 63 #[.agg #[.int .i64 h.id, .int .i64 h.bk, .int .i64 h.tm.f, .int .i64 h.tm.t, .int .i64 h.tm.k, .int .i64 h.tm.v, .int .i64 h.tm.a, .int .i64 h.tm.z, .slice h.tm.A h.tm.l.length h.tm.cap, .slice h.A h.cs.length h.cap]] w fun e w' => e = .returned (.tuple #[.int .i64 (turnR h.cs O.reverse).1, .bool (turnR h.cs O.reverse).2]) ∧ Below w.heap.size w w' := by
  obtain ⟨w1, hw1⟩ : ∃ W, w.alloc (.cells (hiC h) 64) = W := ⟨_, rfl⟩
  have H1 := hide (show Below w.heap.size w w1 by rw [← hw1]; exact (Below.refl _ _).alloc (Nat.le_refl _) _)
  have HB1 := hide (show Blk w1 w.heap.size 64 (hiC h) by rw [← hw1]; exact Blk.new _ _ _)
  obtain ⟨x0, x1, x2, x3, x4, x5, x6, x7, x8, x9⟩ := hi_cells HB1.out
  have HV1 := hide hv
  have HO := hide hO
  have HW1 := hide hw1
  have HORD := hide (hord w1 H1.out)
  obtain ⟨R, hR⟩ : ∃ R, turnR h.cs O.reverse = R := ⟨_, rfl⟩
  rw [hR]
  have HR := hide hR
  clear hw1 hv hO hord hR
  go_enter Tryz.func63, Tryz.ntmps63
  go_wp2_with fail
  refine wp_scope_once 0 (fun a' w' => ∃ (k : Nat) (A : Option Addr) (cap : Nat) (u6 u7 u8 u9 u10 u11 u12 u13 u14 u15 u16 u17 u18 u19 u20 u21 u22 u23 u24 u25 u26 u27 u28 u29 u30 u31 u32 u33 : Value), a' = { tmps := #[.agg #[.int .i64 h.id, .int .i64 h.bk, .int .i64 h.tm.f, .int .i64 h.tm.t, .int .i64 h.tm.k, .int .i64 h.tm.v, .int .i64 h.tm.a, .int .i64 h.tm.z, .slice h.tm.A h.tm.l.length h.tm.cap, .slice h.A h.cs.length h.cap], .pointer (some ⟨w.heap.size, 0, none⟩), .int .i64 0, .bool false, .slice A O.length cap, .int .i64 k, u6, u7, u8, u9, u10, u11, u12, u13, u14, u15, u16, u17, u18, u19, u20, u21, u22, u23, u24, u25, u26, u27, u28, u29, u30, u31, u32, u33], defers := [] } ∧ TurnJ h O w k A cap w') (fun a' _ => (intOf (a'.tmps.getD 5 undef)).toNat) rfl ?_ ?_
  · rintro a' w' ⟨k, A, cap, u6, u7, u8, u9, u10, u11, u12, u13, u14, u15, u16, u17, u18, u19, u20, u21, u22, u23, u24, u25, u26, u27, u28, u29, u30, u31, u32, u33, rfl, hk, ht, hs, hb, hbe⟩
    rw [HR.out] at ht
    have HV := hide (HV1.out.below hbe)
    have HBE := hide hbe
    have HS := hide hs
    have HBK := hide hb
    obtain ⟨x0, x1, x2, x3, x4, x5, x6, x7, x8, x9⟩ := hi_cells hb
    clear hs hb hbe
    rcases Nat.eq_zero_or_pos k with rfl | hkp
    · have hR0 : R = (0, false) := ht.symm
      clear ht x0 x1 x2 x3 x4 x5 x6 x7 x8 x9
      go_wp2_with fail
      simp only [Exit.jump]
      go_ret2
      rw [hR0]
      exact ⟨rfl, HBE.out⟩
    · obtain ⟨m, rfl⟩ : ∃ m, k = m + 1 := ⟨k - 1, by omega⟩
      obtain ⟨o, ho⟩ := get_of (l := O) (k := m) (by omega)
      obtain ⟨c, hc⟩ := HO.out m o ho
      rw [rev_take ho, turnR, hc] at ht
      simp only at ht
      obtain ⟨b, off, rfl, -, hco⟩ := HS.out.sl m (encN o) (by simp [ho])
      have oc := hco 0 _ rfl
      rw [Nat.mul_one, Nat.add_zero] at oc
      obtain ⟨bc, co, hAc, hbc, a0, a1, a2, a3, a4, a5, a6, a7, a8⟩ := HV.out.cs.sl.ch hc
      rw [hAc] at x9
      have hm0 : (0 : Int) ≤ (m : Int) := by omega
      have hm1 : (m : Int) < (O.length : Int) := by omega
      have hm2 : ((m + 1 : Nat) : Int) - 1 = (m : Int) := by omega
      have hm3 : ((((m + 1 : Nat) : Int) == 0) = false) := by simp; omega
      have ho0 : (0 : Int) ≤ (o : Int) := by omega
      have ho1 : (o : Int) < (h.cs.length : Int) := by have := lt_of_get hc; omega
      have hcl := HV.out.cs.le
      have hOl := HS.out.most
      unfold maxLen at hOl
      have hOl2 := HS.out.le
      have HT := hide ht
      clear ht ho hc hco hAc a0 a1 a3 a4 a5 a6 a7 a8 hkp
      by_cases hc3 : c.k = 3 ∨ c.k = 4
      · have hR1 : R = ((o : Int), true) := by have := HT.out; rw [if_pos hc3] at this; exact this.symm
        obtain ⟨K, hK⟩ : ∃ K, c.k = K := ⟨_, rfl⟩
        rw [hK] at a2 hc3
        rcases hc3 with rfl | rfl
        · go_wp2_with fail
          go_region
          go_wp2_with fail
          simp only [Exit.jump]
          go_ret2
          rw [hR1]
          exact ⟨rfl, HBE.out.drew⟩
        · go_wp2_with fail
          go_region
          go_wp2_with fail
          simp only [Exit.jump]
          go_ret2
          rw [hR1]
          exact ⟨rfl, HBE.out.drew⟩
      · have hR1 : turnR h.cs (O.take m).reverse = R := by have := HT.out; rw [if_neg hc3] at this; exact this
        have h3 : (c.k != 3) = true := by simp; omega
        have h4 : (c.k != 4) = true := by simp; omega
        go_wp2_with fail
        go_region
        go_wp2_with fail
        go_step3
        refine ⟨rfl, ⟨m, _, cap, _, _, _, _, _, _, _, _, _, _, _, _, _, _, _, _, _, _, _, _, _, _, _, _, _, _, _, _, rfl, by omega, by rw [HR.out]; exact hR1, HS.out.below (Below.refl _ _).drew, HBK.out.below (Below.refl w'.heap.size _).drew HBK.out.lt, HBE.out.drew⟩, ?_⟩
        simp [intOf]
        try omega
  · intro hbody
    go_upto_region 1 with fail
    rw [show w.alloc (.cells #[.int .i64 h.id, .int .i64 h.bk, .int .i64 h.tm.f, .int .i64 h.tm.t, .int .i64 h.tm.k, .int .i64 h.tm.v, .int .i64 h.tm.a, .int .i64 h.tm.z, .slice h.tm.A h.tm.l.length h.tm.cap, .slice h.A h.cs.length h.cap] 64) = w1 from HW1.out]
    go_wp2_with fail
    refine HORD.out.mono ?_
    rintro e w2 ⟨A, cap, rfl, hs, -, h2⟩
    have HS2 := hide hs
    have H12 := hide h2
    have HBD := hide hbody
    clear h2 hs hbody x0 x1 x2 x3 x4 x5 x6 x7 x8 x9
    go_wp2_with fail
    go_step3
    rename_i hK
    exact hK _ _ (HBD.out _ _ ⟨O.length, A, cap, _, _, _, _, _, _, _, _, _, _, _, _, _, _, _, _, _, _, _, _, _, _, _, _, _, _, _, _, rfl, Nat.le_refl _, by rw [List.take_of_length_le (Nat.le_refl _)], HS2.out, HB1.out.below H12.out (HB1.out.lt), chain H1.out H12.out⟩)
end Go.Proofs.YtmfohnchnbgbaaaGreatDoor

/- What is due, where none was cancelled short. -/
namespace Go.Proofs.YtmfohnchnbgbaaaGreatDoor
open Go.RowKit

def Sp.sc (x : Sp) : Sc := ⟨x.f, x.t, x.on, x.rk, x.rv, x.ra, x.rz, none, x.l, 0, x.y⟩
theorem chainS_v : ∀ {l l' : List Sc}, l.map Sc.v = l'.map Sc.v → ∀ e, chainS e l = chainS e l'
  | [], [], _, _ => rfl
  | [], _ :: _, h, _ => by cases h
  | _ :: _, [], h, _ => by cases h
  | x :: r, y :: s, h, e => by
    rw [List.map_cons, List.map_cons, List.cons.injEq] at h
    have h1 : x.f = y.f := congrArg Sp.f h.1
    have h2 : x.t = y.t := congrArg Sp.t h.1
    have h3 : x.y = y.y := congrArg Sp.y h.1
    rw [chainS, chainS, h1, h2, h3, chainS_v h.2]
theorem fold_v : ∀ {l l' : List Sc}, l.map Sc.v = l'.map Sc.v → ∀ s, l.foldl stF s = l'.foldl stF s
  | [], [], _, _ => rfl
  | [], _ :: _, h, _ => by cases h
  | _ :: _, [], h, _ => by cases h
  | x :: r, y :: s, h, e => by
    rw [List.map_cons, List.map_cons, List.cons.injEq] at h
    have h1 : x.f = y.f := congrArg Sp.f h.1
    have h2 : x.t = y.t := congrArg Sp.t h.1
    have h3 : x.y = y.y := congrArg Sp.y h.1
    rw [List.foldl_cons, List.foldl_cons, show stF e x = stF e y by rw [stF, stF, h1, h2, h3], fold_v h.2]
theorem UptoQ_v {l l' : List Sc} (h : l.map Sc.v = l'.map Sc.v) (d : Int) : UptoQ l d = UptoQ l' d := by
  have hl : l.length = l'.length := by have := congrArg List.length h; simpa using this
  rw [UptoQ, UptoQ, curK, curK, chainS_v h, hl, curF, curF, fold_v h]
/-- What is earned ahead of a day. -/
def UptoS (V : List Sp) (d : Int) : Int × Int := UptoQ (V.map Sp.sc) d
theorem uptoS_of {out : List Sc} {V : List Sp} (h : out.map Sc.v = V) (d : Int) : UptoQ out d = UptoS V d := by
  subst h
  refine UptoQ_v ?_ d
  rw [List.map_map, List.map_map]
  exact List.map_congr_left fun x _ => rfl
theorem UptoQ_bd (l : List Sc) (d : Int) : 0 ≤ (UptoQ l d).1 ∧ (UptoQ l d).1 ≤ 4000000000000000000 := by
  unfold UptoQ uptoQ
  split
  · split
    · exact ⟨Int.le_refl _, by decide⟩
    · split
      · have := evQ_le (sumQ (curF l).1 (curF l).2 1 (uptD d)).1.toNat 1 365
        exact ⟨by simp only; omega, by simp only; omega⟩
      · exact ⟨Int.le_refl _, by simp⟩
  · exact ⟨Int.le_refl _, by simp⟩
set_option maxRecDepth 100000 in
theorem written_any (A : Option Addr) (cap n : Nat) (l : List Sc) (w : World) (hs : SV w 9 A n cap (l.map encSc)) :
    Calls Tryz.prog 36 #[.slice A n cap] w fun e w' => e = .returned (.tuple #[.int .i64 (UptoQ l 292195).1, .int .i64 (UptoQ l 292195).2]) ∧ Below w.heap.size w w' := by
  have HU := hide (Upto_any addc_all A cap n l 292195 w hs)
  clear hs
  go_enter Tryz.func36, Tryz.ntmps36
  go_wp2_with fail
  refine HU.out.mono ?_
  rintro e w2 ⟨rfl, h2⟩
  go_wp2_with fail
  go_ret2
  exact ⟨rfl, h2⟩
/-- The last cancel or revival. -/
def turnC : List Ch → Option Ch
  | [] => none
  | c :: r => if c.k = 3 ∨ c.k = 4 then some c else turnC r
theorem turn_c {cs L : List Ch} {O : List Nat} (hO : ∀ (j o : Nat), O[j]? = some o → ∃ c, cs[o]? = some c ∧ L[j]? = some c) : ∀ k, k ≤ O.length →
    (turnC (L.take k).reverse = none ∧ turnR cs (O.take k).reverse = (0, false)) ∨ ∃ (o : Nat) (c : Ch), turnC (L.take k).reverse = some c ∧ turnR cs (O.take k).reverse = ((o : Int), true) ∧ cs[o]? = some c
  | 0, _ => .inl ⟨by simp [turnC], by simp [turnR]⟩
  | k + 1, hk => by
    obtain ⟨o, ho⟩ := get_of (l := O) (k := k) (by omega)
    obtain ⟨c, h1, h2⟩ := hO k o ho
    rw [rev_take ho, take_of h2, List.reverse_append, List.reverse_singleton, List.singleton_append, turnC, turnR, h1]
    simp only
    by_cases hc : c.k = 3 ∨ c.k = 4
    · rw [if_pos hc, if_pos hc]
      exact .inr ⟨o, c, rfl, rfl, h1⟩
    · rw [if_neg hc, if_neg hc]
      exact turn_c hO k (by omega)
def shortC (L : List Ch) : Bool := match turnC L.reverse with | some c => decide (c.k = 3 ∧ c.way = 1) | none => false
set_option maxRecDepth 100000 in
set_option maxHeartbeats 4000000 in
theorem kept0_any (h : Hi) (L : List Ch) (A : Option Addr) (cap n : Nat) (M : List Vw) (w : World) (hv : HV w h) (hT : TV w A n cap M) (hm : ∀ x ∈ M, LenV x) (hord : rightH h = true → Ordd w h L) (hsh : shortC L = false) :
    Calls Tryz.prog 35 #[.agg #[.int .i64 h.id, .int .i64 h.bk, .int .i64 h.tm.f, .int .i64 h.tm.t, .int .i64 h.tm.k, .int .i64 h.tm.v, .int .i64 h.tm.a, .int .i64 h.tm.z, .slice h.tm.A h.tm.l.length h.tm.cap, .slice h.A h.cs.length h.cap], .agg #[.slice A n cap]] w fun e w' => e = .returned (.tuple #[.int .i64 0, .int .i64 (slE h L (allV M))]) ∧ Below w.heap.size w w' := by
  obtain rfl : M.length = n := hT.len
  obtain ⟨w1, hw1⟩ : ∃ W, (w.alloc (.cells (hiC h) 64)).alloc (.cells #[.slice A M.length cap] 67) = W := ⟨_, rfl⟩
  have hB : Blk w1 w.heap.size 64 (hiC h) := by rw [← hw1]; exact (Blk.new _ _ _).alloc _
  have hS : Blk w1 (w.heap.size + 1) 67 #[.slice A M.length cap] := by rw [← hw1]; exact Blk.new' (by simp)
  have hb1 : Below w.heap.size w w1 := by rw [← hw1]; exact ((Below.refl _ _).alloc (Nat.le_refl _) _).alloc (by simp) _
  obtain ⟨x0, x1, x2, x3, x4, x5, x6, x7, x8, x9⟩ := hi_cells hB
  have z0 := hS.cell 0
  simp at z0
  have H1 := hide hb1
  have HB := hide hB
  have HW := hide hw1
  have HV1 := hide (hv.below hb1)
  have HOD := hide (show rightH h = true → Ordd w1 h L from fun hr => (hord hr).below hb1)
  have HSL := hide (slc_any h L A cap M w1 (hv.below hb1) (hT.below hb1) hm HOD.out)
  obtain ⟨E, hE⟩ : ∃ E, slE h L (allV M) = E := ⟨_, rfl⟩
  rw [hE] at HSL ⊢
  have HE := hide hE
  have HSH := hide hsh
  have hsz : w.heap.size < w1.heap.size := hB.lt
  clear hB hS hb1 hw1 hv hT hm hord hE hsh
  go_enter Tryz.func35, Tryz.ntmps35
  go_upto_region 1 with fail
  rw [show (w.alloc (.cells #[.int .i64 h.id, .int .i64 h.bk, .int .i64 h.tm.f, .int .i64 h.tm.t, .int .i64 h.tm.k, .int .i64 h.tm.v, .int .i64 h.tm.a, .int .i64 h.tm.z, .slice h.tm.A h.tm.l.length h.tm.cap, .slice h.A h.cs.length h.cap] 64)).alloc (.cells #[.slice A M.length cap] 67) = w1 from HW.out]
  go_wp2_with fail
  refine HSL.out.mono ?_
  rintro e w2 ⟨h2, hr⟩
  have H2 := hide (chain H1.out h2)
  have HB2 := hide (HB.out.below h2 hsz)
  rcases hr with ⟨hne, rfl⟩ | ⟨rfl, A5, cap5, out, rfl, -, -⟩
  · have hq : (E != 0) = true := by simpa using hne
    clear hne h2 x0 x1 x2 x3 x4 x5 x6 x7 x8 x9 z0
    go_wp2_with fail
    go_ret2
    exact ⟨rfl, H2.out⟩
  · have hr : rightH h = true := by
      have := HE.out
      rw [slE] at this
      by_cases hr : rightH h = true
      · exact hr
      · rw [if_neg hr] at this; cases this
    obtain ⟨O, o1, o2, o3, o4⟩ := ((HOD.out hr).below h2).ex
    have HTU := hide (turn_any h O w2 (HV1.out.below h2) (fun j o ho => let ⟨c, hc, _⟩ := o2 j o ho; ⟨c, hc⟩) o4)
    have HTC := hide (turn_c o2 O.length (Nat.le_refl _))
    rw [List.take_of_length_le (Nat.le_refl _), List.take_of_length_le (by omega)] at HTC
    have HV2 := hide (HV1.out.below h2)
    clear o1 o2 o3 o4 hr h2 x0 x1 x2 x3 x4 x5 x6 x7 x8 x9 z0
    obtain ⟨x0, x1, x2, x3, x4, x5, x6, x7, x8, x9⟩ := hi_cells HB2.out
    go_wp2_with fail
    refine HTU.out.mono ?_
    rintro e w3 ⟨rfl, h3⟩
    have H3 := hide (chain H2.out h3)
    have HB3 := hide (HB2.out.below h3 HB2.out.lt)
    have HV3 := hide (HV2.out.below h3)
    clear x0 x1 x2 x3 x4 x5 x6 x7 x8 x9 h3
    rcases HTC.out with ⟨hc, ht⟩ | ⟨o, c, hc, ht, hco⟩
    · rw [ht]
      clear ht hc
      go_wp2_with fail
      go_ret2
      exact ⟨rfl, H3.out⟩
    · rw [ht]
      have hsh := HSH.out
      rw [shortC, hc] at hsh
      simp only [decide_eq_false_iff_not] at hsh
      obtain ⟨x0, x1, x2, x3, x4, x5, x6, x7, x8, x9⟩ := hi_cells HB3.out
      obtain ⟨bc, co, hAc, hbc, a0, a1, a2, a3, a4, a5, a6, a7, a8⟩ := HV3.out.cs.sl.ch hco
      rw [hAc] at x9
      have ho0 : (0 : Int) ≤ (o : Int) := by omega
      have ho1 : (o : Int) < (h.cs.length : Int) := by have := lt_of_get hco; omega
      clear ht hc hAc hco
      by_cases h3 : c.k = 3
      · have hw1 : (c.way != 1) = true := by simp; intro e; exact hsh ⟨h3, e⟩
        rw [h3] at a2
        clear h3 hsh
        go_wp2_with fail
        go_ret2
        exact ⟨rfl, H3.out⟩
      · have hk3 : (c.k != 3) = true := by simpa using h3
        clear h3 hsh
        go_wp2_with fail
        go_ret2
        exact ⟨rfl, H3.out⟩
end Go.Proofs.YtmfohnchnbgbaaaGreatDoor

/- What is due, in all. -/
namespace Go.Proofs.YtmfohnchnbgbaaaGreatDoor
open Go.RowKit

def dueQ (K : Int × Int) (V : List Sp) : Int × Int :=
  if K.2 ≠ 0 then (0, K.2) else if (UptoS V 292195).2 ≠ 0 then (0, (UptoS V 292195).2) else if 4000000000000000000 - K.1 < (UptoS V 292195).1 then (0, 5) else ((UptoS V 292195).1 + K.1, 0)
set_option maxRecDepth 100000 in
set_option maxHeartbeats 4000000 in
theorem due_any (h : Hi) (L : List Ch) (A : Option Addr) (cap n : Nat) (M : List Vw) (K : Int × Int) (w : World) (hv : HV w h) (hT : TV w A n cap M) (hm : ∀ x ∈ M, LenV x) (hord : rightH h = true → Ordd w h L)
    (hK : ∀ W, Below w.heap.size w W → Calls Tryz.prog 35 #[.agg #[.int .i64 h.id, .int .i64 h.bk, .int .i64 h.tm.f, .int .i64 h.tm.t, .int .i64 h.tm.k, .int .i64 h.tm.v, .int .i64 h.tm.a, .int .i64 h.tm.z, .slice h.tm.A h.tm.l.length h.tm.cap, .slice h.A h.cs.length h.cap], .agg #[.slice A n cap]] W fun e w' => e = .returned (.tuple #[.int .i64 K.1, .int .i64 K.2]) ∧ Below W.heap.size W w')
    (hb : 0 ≤ K.1 ∧ K.1 ≤ 4000000000000000000) (hE0 : K.2 = 0 → slE h L (allV M) = 0) :
    Calls Tryz.prog 17 #[.agg #[.int .i64 h.id, .int .i64 h.bk, .int .i64 h.tm.f, .int .i64 h.tm.t, .int .i64 h.tm.k, .int .i64 h.tm.v, .int .i64 h.tm.a, .int .i64 h.tm.z, .slice h.tm.A h.tm.l.length h.tm.cap, .slice h.A h.cs.length h.cap], .agg #[.slice A n cap]] w fun e w' => e = .returned (.tuple #[.int .i64 (dueQ K (slL h L (allV M))).1, .int .i64 (dueQ K (slL h L (allV M))).2]) ∧ Below w.heap.size w w' := by
  obtain rfl : M.length = n := hT.len
  obtain ⟨k1, k2⟩ := K
  simp only at hK hb hE0
  obtain ⟨w1, hw1⟩ : ∃ W, (w.alloc (.cells (hiC h) 64)).alloc (.cells #[.slice A M.length cap] 67) = W := ⟨_, rfl⟩
  have hB : Blk w1 w.heap.size 64 (hiC h) := by rw [← hw1]; exact (Blk.new _ _ _).alloc _
  have hS : Blk w1 (w.heap.size + 1) 67 #[.slice A M.length cap] := by rw [← hw1]; exact Blk.new' (by simp)
  have hb1 : Below w.heap.size w w1 := by rw [← hw1]; exact ((Below.refl _ _).alloc (Nat.le_refl _) _).alloc (by simp) _
  obtain ⟨x0, x1, x2, x3, x4, x5, x6, x7, x8, x9⟩ := hi_cells hB
  have z0 := hS.cell 0
  simp at z0
  have H1 := hide hb1
  have HB := hide hB
  have HS := hide hS
  have HW := hide hw1
  have HV1 := hide (hv.below hb1)
  have HT1 := hide (hT.below hb1)
  have HM := hide hm
  have HOD := hide (show rightH h = true → Ordd w1 h L from fun hr => (hord hr).below hb1)
  have HK := hide (hK w1 hb1)
  have HE0 := hide hE0
  obtain ⟨V, hV⟩ : ∃ V, slL h L (allV M) = V := ⟨_, rfl⟩
  rw [hV]
  have HVV := hide hV
  obtain ⟨R, hR⟩ : ∃ R, dueQ (k1, k2) V = R := ⟨_, rfl⟩
  rw [hR]
  have HR := hide hR
  have hsz : w.heap.size + 1 < w1.heap.size := hS.lt
  clear hB hS hb1 hw1 hv hT hm hord hK hE0 hV hR
  go_enter Tryz.func17, Tryz.ntmps17
  go_upto_region 1 with fail
  rw [show (w.alloc (.cells #[.int .i64 h.id, .int .i64 h.bk, .int .i64 h.tm.f, .int .i64 h.tm.t, .int .i64 h.tm.k, .int .i64 h.tm.v, .int .i64 h.tm.a, .int .i64 h.tm.z, .slice h.tm.A h.tm.l.length h.tm.cap, .slice h.A h.cs.length h.cap] 64)).alloc (.cells #[.slice A M.length cap] 67) = w1 from HW.out]
  go_wp2_with fail
  refine HK.out.mono ?_
  rintro e w2 ⟨rfl, h2⟩
  have H2 := hide (chain H1.out h2)
  have HB2 := hide (HB.out.below h2 (by omega))
  have HS2 := hide (HS.out.below h2 (by omega))
  have H12 := hide h2
  clear h2 x0 x1 x2 x3 x4 x5 x6 x7 x8 x9 z0
  by_cases hk2 : k2 = 0
  · subst hk2
    have hE := HE0.out rfl
    have HSL := hide (slc_any h L A cap M w2 (HV1.out.below H12.out) (HT1.out.below H12.out) HM.out (fun hr => (HOD.out hr).below H12.out))
    rw [hE, HVV.out] at HSL
    obtain ⟨x0, x1, x2, x3, x4, x5, x6, x7, x8, x9⟩ := hi_cells HB2.out
    have z0 := HS2.out.cell 0
    simp at z0
    go_wp2_with fail
    refine HSL.out.mono ?_
    rintro e w3 ⟨h3, hr⟩
    have H3 := hide (chain H2.out h3)
    clear h3 x0 x1 x2 x3 x4 x5 x6 x7 x8 x9 z0
    rcases hr with ⟨hne, -⟩ | ⟨-, A5, cap5, out, rfl, hov, hmd⟩
    · exact absurd rfl hne
    · have HWR := hide (written_any A5 cap5 out.length out w3 hmd.own.sv)
      rw [uptoS_of hov] at HWR
      have HBD := hide (UptoQ_bd out 292195)
      rw [uptoS_of hov] at HBD
      have HQ := hide (show dueQ (k1, 0) V = if (UptoS V 292195).2 ≠ 0 then (0, (UptoS V 292195).2) else if 4000000000000000000 - k1 < (UptoS V 292195).1 then (0, 5) else ((UptoS V 292195).1 + k1, 0) by rw [dueQ, if_neg (by simp)])
      obtain ⟨U, hU⟩ : ∃ U, UptoS V 292195 = U := ⟨_, rfl⟩
      rw [hU] at HWR HBD HQ
      obtain ⟨u1, u2⟩ := U
      simp only at HWR HBD HQ
      clear hU hov hmd
      go_wp2_with fail
      refine HWR.out.mono ?_
      rintro e w4 ⟨rfl, h4⟩
      have H4 := hide (chain H3.out h4)
      clear h4
      by_cases hu2 : u2 = 0
      · subst hu2
        have hu := HBD.out
        by_cases hov : 4000000000000000000 - k1 < u1
        · have hR : R = (0, 5) := by rw [← HR.out, HQ.out, if_neg (by simp), if_pos hov]
          subst hR
          go_wp2_with fail
          go_ret2
          exact ⟨rfl, H4.out⟩
        · have hR : R = (u1 + k1, 0) := by rw [← HR.out, HQ.out, if_neg (by simp), if_neg hov]
          subst hR
          go_wp2_with fail
          go_ret2
          exact ⟨rfl, H4.out⟩
      · have hR : R = (0, u2) := by rw [← HR.out, HQ.out, if_pos hu2]
        have hq : (u2 != 0) = true := by simpa using hu2
        subst hR
        clear hu2
        go_wp2_with fail
        go_ret2
        exact ⟨rfl, H4.out⟩
  · have hR : R = (0, k2) := by rw [← HR.out, dueQ, if_pos hk2]
    have hq : (k2 != 0) = true := by simpa using hk2
    subst hR
    clear hk2
    go_wp2_with fail
    go_ret2
    exact ⟨rfl, H2.out⟩
end Go.Proofs.YtmfohnchnbgbaaaGreatDoor

/- A change more: copies of covers, of terms. -/
namespace Go.Proofs.YtmfohnchnbgbaaaGreatDoor
open Go.RowKit

theorem elCh : ElT Tryz.prog 62 77 9 88 := ElT.mk' (z := .agg #[.int .i64 0, .int .i64 0, .int .i64 0, .int .i64 0, .int .i64 0, .int .i64 0, .int .i64 0, .slice none 0 0, .int .i64 0]) Tryz.underlying62 (by kernel_rfl) rfl (by omega)
theorem okChs (l : List Ch) : RowsOk 9 (l.map encCh) := by
  intro r hr
  obtain ⟨x, _, rfl⟩ := List.mem_map.1 hr
  refine ⟨rfl, fun u hu => ?_⟩
  simp [encCh] at hu
  rcases hu with rfl | rfl | rfl | rfl | rfl | rfl | rfl | rfl | rfl <;> rfl
set_option maxHeartbeats 1000000 in
theorem cloneC_any (A : Option Addr) (n cap : Nat) (l : List Cv) (w : World) (hs : SV w 5 A n cap (l.map encCv)) (hm : n ≤ 1000000) :
    Calls Tryz.prog 83 #[.slice A n cap] w (CopyP w 41 5 n (l.map encCv)) := by
  have hq := fun (W : World) => Lib.run_eql_slice_nil (P := Tryz.prog) W 59 41 A n cap 0 0 Tryz.underlying59
  have hn : l.length = n := by have := hs.len; simpa using this
  have HS := hide hs
  have HN := hide hn
  clear hs hn
  cases A with
  | none =>
    have h0 : n = 0 := by have := HS.out.nil rfl; have := HS.out.le; omega
    have hc0 : cap = 0 := HS.out.nil rfl
    have hl : l = [] := List.eq_nil_of_length_eq_zero (by rw [HN.out]; exact h0)
    subst hl h0 hc0
    go_enter Tryz.func83, Tryz.ntmps83
    go_wp2_with fail
    go_ret
    exact ⟨none, 0, rfl, OwnS.nil_ _ _ _ _, Below.refl _ _⟩
  | some a =>
    go_enter Tryz.func83, Tryz.ntmps83
    go_wp2_with (at_builtin
                 refine wpList_app rfl (.tmp 5) (.tmp 6) 59 rfl elCov (B := w.heap.size) (A := some ⟨_, 0, none⟩) (rows := []) (news := l.map encCv) rfl (own_of_blk (Blk.new _ _ _) (Nat.le_refl _)) rfl (by simp; exact HN.out) ?_ (okCov l) ?_ ?_ ?_ ?_
                 · exact (HS.out.sl.below ((Below.refl _ _).alloc (Nat.le_refl _) _)).more (by simp)
                 · simp only [maxLen]; omega
                 · omega
                 · simp
                 intro A1 c1 wa ho1 hg1 ha1
                 rw [Nat.zero_add, List.nil_append] at ho1
                 have hba : Below w.heap.size w wa := ((Below.refl _ _).alloc (Nat.le_refl _) _).grown hg1 (by simp) (fun kk hk => by simp [blk] at hk; omega)
                 have HO := hide ho1
                 clear hg1 ha1 ho1)
    go_ret
    exact ⟨A1, c1, by simp, HO.out, hba⟩
def OwnTP (x : Tm) (w : World) (e : Ending) (w' : World) : Prop :=
  ∃ (A' : Option Addr) (c' : Nat), e = .returned (.agg #[.int .i64 x.f, .int .i64 x.t, .int .i64 x.k, .int .i64 x.v, .int .i64 x.a, .int .i64 x.z, .slice A' x.l.length c']) ∧ SV w' 5 A' x.l.length c' (x.l.map encCv) ∧ (∀ k, blk A' = some k → w.heap.size ≤ k) ∧ Below w.heap.size w w'
def tmCA (x : Tm) (A : Option Addr) (c : Nat) : Array Value := #[.int .i64 x.f, .int .i64 x.t, .int .i64 x.k, .int .i64 x.v, .int .i64 x.a, .int .i64 x.z, .slice A x.l.length c]
theorem tmA_cells {w : World} {g : Nat} {x : Tm} {A : Option Addr} {c : Nat} (h : Blk w g 61 (tmCA x A c)) : w.cell? ⟨g, 0, none⟩ = some (.int .i64 x.f) ∧ w.cell? ⟨g, 1, none⟩ = some (.int .i64 x.t) ∧ w.cell? ⟨g, 2, none⟩ = some (.int .i64 x.k) ∧ w.cell? ⟨g, 3, none⟩ = some (.int .i64 x.v) ∧
    w.cell? ⟨g, 4, none⟩ = some (.int .i64 x.a) ∧ w.cell? ⟨g, 5, none⟩ = some (.int .i64 x.z) ∧ w.cell? ⟨g, 6, none⟩ = some (.slice A x.l.length c) := ⟨h.cell 0, h.cell 1, h.cell 2, h.cell 3, h.cell 4, h.cell 5, h.cell 6⟩
set_option maxHeartbeats 1000000 in
theorem ownT_any (x : Tm) (w : World) (hs : SV w 5 x.A x.l.length x.cap (x.l.map encCv)) (hm : x.l.length ≤ 1000000) :
    Calls Tryz.prog 84 #[.agg #[.int .i64 x.f, .int .i64 x.t, .int .i64 x.k, .int .i64 x.v, .int .i64 x.a, .int .i64 x.z, .slice x.A x.l.length x.cap]] w (OwnTP x w) := by
  obtain ⟨w1, hw1⟩ : ∃ W, (w.alloc (.cells (tmCA x x.A x.cap) 61)).alloc (.cells #[.int .i64 0, .int .i64 0, .int .i64 0, .int .i64 0, .int .i64 0, .int .i64 0, .slice none 0 0] 61) = W := ⟨_, rfl⟩
  have HB := hide (show Blk w1 w.heap.size 61 (tmCA x x.A x.cap) by rw [← hw1]; exact (Blk.new _ _ _).alloc _)
  have HR := hide (show Blk w1 (w.heap.size + 1) 61 #[.int .i64 0, .int .i64 0, .int .i64 0, .int .i64 0, .int .i64 0, .int .i64 0, .slice none 0 0] by rw [← hw1]; exact Blk.new' (by simp))
  have H1 := hide (show Below w.heap.size w w1 by rw [← hw1]; exact ((Below.refl _ _).alloc (Nat.le_refl _) _).alloc (by simp) _)
  have HCL := hide (cloneC_any x.A x.l.length x.cap x.l w1 (hs.below H1.out) hm)
  have HW1 := hide hw1
  have hz := HR.out.lt
  obtain ⟨x0, x1, x2, x3, x4, x5, x6⟩ := tmA_cells HB.out
  clear hw1 hs
  go_enter Tryz.func84, Tryz.ntmps84
  go_upto_region 1 with fail
  rw [show (w.alloc (.cells #[.int .i64 x.f, .int .i64 x.t, .int .i64 x.k, .int .i64 x.v, .int .i64 x.a, .int .i64 x.z, .slice x.A x.l.length x.cap] 61)).alloc (.cells #[.int .i64 0, .int .i64 0, .int .i64 0, .int .i64 0, .int .i64 0, .int .i64 0, .slice none 0 0] 61) = w1 from HW1.out]
  clear x0 x1 x2 x3 x4 x5
  go_wp2_with fail
  refine HCL.out.mono ?_
  rintro e w2 ⟨A', c', rfl, ho, h2⟩
  have HO := hide ho
  have H2 := hide (chain H1.out h2)
  have HB2 := hide (HB.out.below h2 (by omega))
  have HR2 := hide (HR.out.below h2 hz)
  have hlt := HB2.out.lt
  have hltR := HR2.out.lt
  have f6 := HB2.out.frozen 6
  have q6 := HB2.out.cell 6
  have HS3 := hide ((HB2.out.set_ 6 (.slice A' x.l.length c')))
  obtain ⟨y0, y1, y2, y3, y4, y5, y6⟩ := tmA_cells HB2.out
  have r0 : w2.cell? ⟨w.heap.size + 1, 0, none⟩ = some (.int .i64 0) := HR2.out.cell 0
  have g0 := HR2.out.frozen 0
  have r1 : w2.cell? ⟨w.heap.size + 1, 1, none⟩ = some (.int .i64 0) := HR2.out.cell 1
  have g1 := HR2.out.frozen 1
  have r2 : w2.cell? ⟨w.heap.size + 1, 2, none⟩ = some (.int .i64 0) := HR2.out.cell 2
  have g2 := HR2.out.frozen 2
  have r3 : w2.cell? ⟨w.heap.size + 1, 3, none⟩ = some (.int .i64 0) := HR2.out.cell 3
  have g3 := HR2.out.frozen 3
  have r4 : w2.cell? ⟨w.heap.size + 1, 4, none⟩ = some (.int .i64 0) := HR2.out.cell 4
  have g4 := HR2.out.frozen 4
  have r5 : w2.cell? ⟨w.heap.size + 1, 5, none⟩ = some (.int .i64 0) := HR2.out.cell 5
  have g5 := HR2.out.frozen 5
  have r6 : w2.cell? ⟨w.heap.size + 1, 6, none⟩ = some (.slice none 0 0) := HR2.out.cell 6
  have g6 := HR2.out.frozen 6
  clear ho h2 x6 q6
  go_wp2_with fail
  exact ret_row rfl rfl rfl ((((((((HR2.out.far (p := ⟨w.heap.size, 6, none⟩) (by simp) _).set_ 0 _).set_ 1 _).set_ 2 _).set_ 3 _).set_ 4 _).set_ 5 _).set_ 6 _) Tryz.underlying61 rfl (by kernel_rfl) ⟨A', c', rfl, ((((((((HO.out.far (p := ⟨w.heap.size, 6, none⟩) (fun k hk => by have := (HO.out.lt k hk).1; simp; omega) _).far (p := ⟨w.heap.size + 1, 0, none⟩) (fun k hk => by have := (HO.out.lt k hk).1; simp; omega) _).far (p := ⟨w.heap.size + 1, 1, none⟩) (fun k hk => by have := (HO.out.lt k hk).1; simp; omega) _).far (p := ⟨w.heap.size + 1, 2, none⟩) (fun k hk => by have := (HO.out.lt k hk).1; simp; omega) _).far (p := ⟨w.heap.size + 1, 3, none⟩) (fun k hk => by have := (HO.out.lt k hk).1; simp; omega) _).far (p := ⟨w.heap.size + 1, 4, none⟩) (fun k hk => by have := (HO.out.lt k hk).1; simp; omega) _).far (p := ⟨w.heap.size + 1, 5, none⟩) (fun k hk => by have := (HO.out.lt k hk).1; simp; omega) _).far (p := ⟨w.heap.size + 1, 6, none⟩) (fun k hk => by have := (HO.out.lt k hk).1; simp; omega) _).sv, fun k hk => by have := (HO.out.lt k hk).1; omega, ((((((((H2.out.setCell (p := ⟨w.heap.size, 6, none⟩) (by simp) _).setCell (p := ⟨w.heap.size + 1, 0, none⟩) (by simp) _).setCell (p := ⟨w.heap.size + 1, 1, none⟩) (by simp) _).setCell (p := ⟨w.heap.size + 1, 2, none⟩) (by simp) _).setCell (p := ⟨w.heap.size + 1, 3, none⟩) (by simp) _).setCell (p := ⟨w.heap.size + 1, 4, none⟩) (by simp) _).setCell (p := ⟨w.heap.size + 1, 5, none⟩) (by simp) _).setCell (p := ⟨w.heap.size + 1, 6, none⟩) (by simp) _)⟩
end Go.Proofs.YtmfohnchnbgbaaaGreatDoor
