/- Part 20 of the proof. -/
import Derived.Test.YtmfohnchnbgbaaaGreatDoorYpM17
import Derived.Test.YtmfohnchnbgbaaaGreatDoorYpM19
/- A policy's slices, with what they cost. -/
namespace Go.Proofs.YtmfohnchnbgbaaaGreatDoor
open Go.RowKit

def ycOf (v : Ver) (s : Sp) : Sp := if s.on = true then { s with y := (yearQ v s.rk s.rv s.ra s.rz s.l).1 } else s
def ycE (v : Ver) (s : Sp) : Int := if s.on = true then (yearQ v s.rk s.rv s.ra s.rz s.l).2 else 0
def errL (v : Ver) : List Sp → Int
  | [] => 0
  | s :: r => if ycE v s = 0 then errL v r else ycE v s
def valL (v : Ver) (l : List Sp) : List Sp := l.map (ycOf v)
theorem errL_drop {v : Ver} {l : List Sp} {k : Nat} {s : Sp} (h : l[k]? = some s) : errL v (l.drop k) = if ycE v s = 0 then errL v (l.drop (k + 1)) else ycE v s := by rw [drop_of h, errL]
def ycSc (v : Ver) (x : Sc) : Sc := if x.on = true then { x with y := (yearQ v x.rk x.rv x.ra x.rz x.l).1 } else x
theorem ycSc_v (v : Ver) (x : Sc) : (ycSc v x).v = ycOf v x.v := by
  unfold ycSc ycOf
  by_cases h : x.on = true
  · rw [if_pos h, if_pos (show x.v.on = true from h)]; rfl
  · rw [if_neg h, if_neg (show ¬x.v.on = true from h)]
/-- The first k of them have their cost. -/
def curL (v : Ver) (out : List Sc) (k : Nat) : List Sc := (out.take k).map (ycSc v) ++ out.drop k
theorem curL_len (v : Ver) (out : List Sc) (k : Nat) : (curL v out k).length = out.length := by simp [curL]; omega
theorem curL_at {v : Ver} {out : List Sc} {k : Nat} {x : Sc} (h : out[k]? = some x) : (curL v out k)[k]? = some x := by
  have hk := lt_of_get h
  rw [curL, List.getElem?_append_right (by simp; omega)]
  simp [Nat.min_eq_left (Nat.le_of_lt hk), h]
theorem curL_succ {v : Ver} {out : List Sc} {k : Nat} {x : Sc} (h : out[k]? = some x) : curL v out (k + 1) = (curL v out k).set k (ycSc v x) := by
  have hk := lt_of_get h
  rw [curL, curL, take_of h, List.map_append, List.set_append_right _ _ (by simp; omega)]
  simp [Nat.min_eq_left (Nat.le_of_lt hk), drop_of h]
section
variable {w w' : World} {B cap : Nat} {A : Option Addr} {out : List Sc}
theorem Made.below (h : Made w B A cap out) (hb : Below w.heap.size w w') : Made w' B A cap out := ⟨h.own.below hb, fun x hx => (h.sv x hx).below hb, h.ap⟩
theorem Made.set_ {g k : Nat} {x : Sc} {y : Int} (h : Made w B (some ⟨g, 0, none⟩) cap out) (hx : out[k]? = some x) : Made (w.setCell ⟨g, k * 9 + 8, none⟩ (.int .i64 y)) B (some ⟨g, 0, none⟩) cap (out.set k { x with y := y }) := by
  have hrow : (out.map encSc)[k]? = some (encSc x) := by simp [hx]
  have ho := h.own.set_ (i := k) (j := 8) hrow (by omega) (u := .int .i64 y) rfl
  have hmem := List.mem_of_getElem? hx
  have hcov : ∀ z ∈ out.set k { x with y := y }, ∃ z' ∈ out, z.A = z'.A ∧ z.l = z'.l ∧ z.cap = z'.cap := by
    intro z hz
    rcases List.mem_or_eq_of_mem_set hz with hz | rfl
    · exact ⟨z, hz, rfl, rfl, rfl⟩
    · exact ⟨x, hmem, rfl, rfl, rfl⟩
  refine ⟨?_, fun z hz => ?_, fun z hz b hb => ?_⟩
  · rw [List.length_set]
    rw [show (out.map encSc).set k ((encSc x).set 8 (.int .i64 y)) = (out.set k { x with y := y }).map encSc by rw [List.map_set]; rfl] at ho
    exact ho
  · obtain ⟨z', hz', e1, e2, e3⟩ := hcov z hz
    rw [e1, e2, e3]
    exact (h.sv z' hz').setFar (fun b hb e => h.ap z' hz' b hb (by rw [e]; rfl)) _
  · obtain ⟨z', hz', e1, e2, e3⟩ := hcov z hz
    rw [e1] at hb
    exact h.ap z' hz' b hb
end
theorem does_cov {P : List Cv → Prop} {s : Sp} {c : Ch} (h : P s.l) (hc : P c.l) : P (doesV s c).l := by
  unfold doesV
  split
  · exact h
  · split
    · exact hc
    · split
      · exact h
      · split <;> exact h
theorem end_cov {P : List Cv → Prop} {d : Int} {now : Sp} {out : List Sp} (h : P now.l) (ho : ∀ z ∈ out, P z.l) : ∀ z ∈ endV d now out, P z.l := by
  unfold endV
  split
  · exact ho
  · rcases nil_or_snoc out with rfl | ⟨r, last, rfl⟩
    · intro z hz
      simp at hz; subst hz; exact h
    · simp only [List.getLast?_append, List.getLast?_singleton, Option.some_or]
      split
      · intro z hz
        rw [List.dropLast_concat, List.mem_append, List.mem_singleton] at hz
        rcases hz with hz | rfl
        · exact ho z (by simp [hz])
        · exact ho last (by simp)
      · intro z hz
        rw [List.mem_append, List.mem_singleton] at hz
        rcases hz with hz | rfl
        · exact ho z hz
        · exact h
theorem fold_cov {P : List Cv → Prop} : ∀ (L : List Ch) (s : Sp × List Sp), P s.1.l → (∀ z ∈ s.2, P z.l) → (∀ c ∈ L, P c.l) → P (L.foldl stepV s).1.l ∧ ∀ z ∈ (L.foldl stepV s).2, P z.l
  | [], _, h1, h2, _ => ⟨h1, h2⟩
  | c :: r, s, h1, h2, h3 => fold_cov r _ (does_cov (s := { s.1 with f := c.d }) h1 (h3 c (by simp))) (end_cov h1 h2) (fun z hz => h3 z (by simp [hz]))
theorem cut_cov {P : List Cv → Prop} {x : Tm} {L : List Ch} (h0 : P x.l) (hL : ∀ c ∈ L, P c.l) : ∀ z ∈ cutV x L, P z.l := by
  have := fold_cov L (now0 x, []) h0 (by simp) hL
  exact end_cov this.1 this.2
theorem set_self {α : Type} : ∀ {l : List α} {k : Nat} {x : α}, l[k]? = some x → l.set k x = l
  | [], k, x, h => by simp at h
  | a :: r, 0, x, h => by simp at h; subst h; rfl
  | a :: r, k + 1, x, h => by rw [List.set_cons_succ, set_self (l := r) (by simpa using h)]
/-- What is asked of the changes' order. -/
structure Ordd (w : World) (h : Hi) (L : List Ch) : Prop where
  ex : ∃ O : List Nat, O.length ≤ 2000 ∧ (∀ (j o : Nat), O[j]? = some o → ∃ c, h.cs[o]? = some c ∧ L[j]? = some c) ∧ L.length = O.length ∧ ∀ W, Below w.heap.size w W → Calls Tryz.prog 74 #[.agg #[.int .i64 h.id, .int .i64 h.bk, .int .i64 h.tm.f, .int .i64 h.tm.t, .int .i64 h.tm.k, .int .i64 h.tm.v, .int .i64 h.tm.a, .int .i64 h.tm.z, .slice h.tm.A h.tm.l.length h.tm.cap, .slice h.A h.cs.length h.cap]] W (OrdP O W)
theorem Ordd.below {w w' : World} {h : Hi} {L : List Ch} (ho : Ordd w h L) (hb : Below w.heap.size w w') : Ordd w' h L := by
  obtain ⟨O, h1, h2, h3, h4⟩ := ho.ex
  exact ⟨O, h1, h2, h3, fun W hW => h4 W (chain hb hW)⟩
theorem kinds_of {h : Hi} (hr : rightH h = true) : h.tm.l.length ≤ 8 ∧ ∀ c ∈ h.cs, c.k = 2 → c.l.length ≤ 8 := by
  rw [rightH, Bool.and_eq_true, Bool.and_eq_true] at hr
  obtain ⟨h1, h2, -⟩ := hr
  constructor
  · simp only [termsB, allOf, List.all_cons, List.all_nil, Bool.and_true, Bool.and_eq_true, id] at h2
    have := h2.2.2.2
    simp only [coversB, Bool.and_eq_true, decide_eq_true_eq] at this
    exact this.2.2
  · intro c hc hk
    rw [chsB, List.all_eq_true] at h1
    have h3 := h1 c hc
    simp only [chB, changeB, Bool.and_eq_true, kindB, hk] at h3
    have h4 := h3.1.2
    rw [if_neg (by omega), if_pos trivial] at h4
    simp only [kind2, Bool.and_eq_true, coversB, decide_eq_true_eq] at h4
    exact h4.1.1.2.2
def slE (h : Hi) (L : List Ch) (M : List Ver) : Int := if rightH h = true then (match atL M h.tm.f with | none => 7 | some v => errL v (cutV h.tm L)) else 1
def slL (h : Hi) (L : List Ch) (M : List Ver) : List Sp := match atL M h.tm.f with | none => [] | some v => valL v (cutV h.tm L)
def SlcP (E : Int) (V : List Sp) (w : World) (e : Ending) (w' : World) : Prop :=
  Below w.heap.size w w' ∧ ((E ≠ 0 ∧ e = .returned (.tuple #[.slice none 0 0, .int .i64 E])) ∨ (E = 0 ∧ ∃ (A : Option Addr) (cap : Nat) (out : List Sc), e = .returned (.tuple #[.slice A out.length cap, .int .i64 0]) ∧ out.map Sc.v = V ∧ Made w' w.heap.size A cap out))

set_option maxRecDepth 100000 in
set_option maxHeartbeats 4000000 in
theorem slc_any (h : Hi) (L : List Ch) (A : Option Addr) (cap : Nat) (M : List Vw) (w : World) (hv : HV w h) (hT : TV w A M.length cap M) (hm : ∀ x ∈ M, LenV x) (hord : rightH h = true → Ordd w h L) :
    Calls Tryz.prog 18 #[.agg #[.int .i64 h.id, .int .i64 h.bk, .int .i64 h.tm.f, .int .i64 h.tm.t, .int .i64 h.tm.k, .int .i64 h.tm.v, .int .i64 h.tm.a, .int .i64 h.tm.z, .slice h.tm.A h.tm.l.length h.tm.cap, .slice h.A h.cs.length h.cap], .agg #[.slice A M.length cap]] w (SlcP (slE h L (allV M)) (slL h L (allV M)) w) := by
  obtain ⟨n, hn⟩ : ∃ n, M.length = n := ⟨_, rfl⟩
  have HN := hide hn
  have HV := hide hv
  have HT := hide hT
  have HM := hide hm
  have HORD := hide hord
  obtain ⟨w1, hw1⟩ : ∃ W, (w.alloc (.cells (hiC h) 64)).alloc (.cells #[.slice A M.length cap] 67) = W := ⟨_, rfl⟩
  have hB : Blk w1 w.heap.size 64 (hiC h) := by rw [← hw1]; exact (Blk.new _ _ _).alloc _
  have hS : Blk w1 (w.heap.size + 1) 67 #[.slice A M.length cap] := by rw [← hw1]; exact Blk.new' (by simp)
  have hb1 : Below w.heap.size w w1 := by rw [← hw1]; exact ((Below.refl _ _).alloc (Nat.le_refl _) _).alloc (by simp) _
  obtain ⟨z0, z1, z2, z3, z4, z5, z6, z7, z8, z9⟩ := hi_cells hB
  have s0 := hS.cell 0
  simp at s0
  have lt0 := hS.lt
  have HB := hide hB
  have HS := hide hS
  have H1 := hide hb1
  have HW := hide hw1
  obtain ⟨b1, hb1'⟩ : ∃ B, rightH h = B := ⟨_, rfl⟩
  have K1 := hide hb1'
  obtain ⟨E, hE⟩ : ∃ E, slE h L (allV M) = E := ⟨_, rfl⟩
  obtain ⟨V, hV⟩ : ∃ V, slL h L (allV M) = V := ⟨_, rfl⟩
  have HE := hide hE
  have HVV := hide hV
  rw [hE, hV]
  clear hB hS hb1 hw1 hn hv hT hm hord hb1' hE hV
  go_enter Tryz.func18, Tryz.ntmps18
  go_upto_region 1 with fail
  rw [show (w.alloc (.cells #[.int .i64 h.id, .int .i64 h.bk, .int .i64 h.tm.f, .int .i64 h.tm.t, .int .i64 h.tm.k, .int .i64 h.tm.v, .int .i64 h.tm.a, .int .i64 h.tm.z, .slice h.tm.A h.tm.l.length h.tm.cap, .slice h.A h.cs.length h.cap] 64)).alloc (.cells #[.slice A M.length cap] 67) = w1 from HW.out]
  go_wp2_with fail
  refine (right_is K1.out _ (HV.out.below H1.out)).mono ?_
  rintro e w2 ⟨rfl, h2⟩
  cases b1
  · have hE : E = 1 := by rw [← HE.out, slE, K1.out]; rfl
    subst hE
    have H2 := hide (chain H1.out h2)
    clear h2
    go_wp2_with fail
    go_ret2
    exact ⟨H2.out, .inl ⟨by omega, rfl⟩⟩
  have s0 := kept h2 s0
  have z2 := kept h2 z2
  have H12 := hide h2
  have H2 := hide (chain H1.out h2)
  have HT2 := hide (HT.out.below (chain H1.out h2))
  clear h2
  go_wp2_with fail
  refine (at_any A cap M h.tm.f _ HT2.out HM.out).mono ?_
  rintro e w3 ⟨h3, hr⟩
  have HW3 := hide (chain H2.out h3)
  have hB3 := (HB.out.below (chain H12.out h3) (by omega))
  obtain ⟨x0, x1, x2, x3, x4, x5, x6, x7, x8, x9⟩ := hi_cells hB3
  have hz3 : w.heap.size + 1 < w3.heap.size := by have := h3.size; have := H12.out.size; omega
  clear h3 hB3 s0 z2
  rcases hr with ⟨hno, rfl⟩ | ⟨v, hyes, x, rfl, hxv, hxo⟩
  · have hE : E = 7 := by rw [← HE.out, slE, K1.out, hno]; rfl
    subst hE
    clear hno
    go_wp2_with fail
    go_ret2
    exact ⟨HW3.out.alloc HW3.out.size _, .inl ⟨by omega, rfl⟩⟩
  · have HYES := hide hyes
    have HXV := hide hxv
    have HXO := hide hxo
    clear hyes hxv hxo
    obtain ⟨w4, hw4⟩ : ∃ W, w3.alloc (.cells (boxV x) 114) = W := ⟨_, rfl⟩
    have hb4 : Below w3.heap.size w3 w4 := by rw [← hw4]; exact (Below.refl _ _).alloc (Nat.le_refl _) _
    have HX4 := hide (show Blk w4 w3.heap.size 114 (boxV x) by rw [← hw4]; exact Blk.new _ _ _)
    have hX4 := HX4.out.lt
    have y0 := kept hb4 x0
    have y1 := kept hb4 x1
    have y2 := kept hb4 x2
    have y3 := kept hb4 x3
    have y4 := kept hb4 x4
    have y5 := kept hb4 x5
    have y6 := kept hb4 x6
    have y7 := kept hb4 x7
    have y8 := kept hb4 x8
    have y9 := kept hb4 x9
    have HXO4 := hide (HXO.out.below hb4)
    have HB4 := hide (chain HW3.out hb4)
    have HW4 := hide hw4
    clear hw4 hb4 x0 x1 x2 x3 x4 x5 x6 x7 x8 x9
    go_upto_region 6 with fail
    rw [show w3.alloc (.cells #[.int .i64 x.f, .int .i64 x.b0, .int .i64 x.b1, .int .i64 x.b2, .int .i64 x.b3, .slice x.aA x.age.length x.aC, .slice x.zA x.zone.length x.zC, .slice x.pA x.peril.length x.pC, .int .i64 x.mn] 114) = w4 from HW4.out]
    obtain ⟨X, hX⟩ : ∃ X, w3.heap.size = X := ⟨_, rfl⟩
    rw [hX] at HX4 hX4 ⊢
    clear hX HW4
    obtain ⟨O, o1, o2, o3, o4⟩ := ((HORD.out K1.out).below HB4.out).ex
    have HCOV := hide (cut_cov (P := fun l => ∀ c ∈ l, okCv c) (x := h.tm) (L := L) HV.out.ot (fun c hc => by
      obtain ⟨j, hj⟩ := List.mem_iff_getElem?.1 hc
      obtain ⟨o, ho⟩ := get_of (l := O) (k := j) (by rw [← o3]; exact lt_of_get hj)
      obtain ⟨c', hc1, hc2⟩ := o2 j o ho
      obtain rfl : c = c' := by rw [hj] at hc2; exact Option.some.inj hc2
      exact (HV.out.oc c (List.mem_of_getElem? hc1)).2))
    have hk8 := kinds_of K1.out
    have HCUT := hide (cut_any h O L w4 (HV.out.below HB4.out) hk8.1 hk8.2 o1 o2 o3 o4)
    clear o1 o2 o3 o4 hk8
    go_wp2_with fail
    refine HCUT.out.mono ?_
    rintro e w5 ⟨A5, cap5, out, rfl, hov, hmade, h5⟩
    clear HCUT y0 y1 y2 y3 y4 y5 y6 y7 y8 y9
    obtain ⟨m, hm⟩ : ∃ m, out.length = m := ⟨_, rfl⟩
    have HMM := hide hm
    rw [hm]
    have hcl := hmade.own.cap_le
    unfold maxLen at hcl
    rw [hm] at hcl
    have HMD := hide hmade
    have HOV := hide hov
    have H5 := hide h5
    have HOKC := hide (show ∀ s ∈ out, ∀ c ∈ s.l, okCv c from fun s hs => HCOV.out s.v (by rw [← hov]; exact List.mem_map_of_mem hs))
    have HEE := hide (show errL v (out.map Sc.v) = E by rw [← HE.out, slE, K1.out, HYES.out, hov]; rfl)
    have HVE := hide (show V = (curL v out m).map Sc.v by
      rw [← HVV.out, slL, HYES.out, curL, List.take_of_length_le (by omega), List.drop_eq_nil_of_le (by omega), List.append_nil, ← hov]
      simp only [valL, List.map_map]
      apply List.map_congr_left
      intro z hz
      exact (ycSc_v v z).symm)
    clear hm hov hmade h5
    go_wp2_with fail
    go_loopw [30] (fun q wr => ∃ (i : Nat), i ≤ m ∧ q = .int .i64 i ∧ Made wr w4.heap.size A5 cap5 (curL v out i) ∧ errL v ((out.map Sc.v).drop i) = E ∧ Below w4.heap.size w4 wr) (fun q _ => m - (RowKit.intOf q).toNat)
    case atStart => exact ⟨0, Nat.zero_le _, rfl, HMD.out, HEE.out, H5.out⟩
    case round =>
      obtain ⟨i, hi, rfl, hmade, herr, hb⟩ := hrel
      have HMD2 := hide hmade
      have HERR := hide herr
      have HBW := hide hb
      have hsz := hb.size
      clear hmade herr hb
      by_cases hlt : i < m
      · obtain ⟨s, hs⟩ := get_of (l := out) (k := i) (by rw [HMM.out]; exact hlt)
        have hcs := curL_at (v := v) hs
        obtain ⟨g, hg⟩ : ∃ g, A5 = some ⟨g, 0, none⟩ := by
          rcases HMD2.out.own.addr with ⟨-, h0, -⟩ | ⟨g, hg, -⟩
          · rw [curL_len, HMM.out] at h0; omega
          · exact ⟨g, hg⟩
        subst hg
        obtain ⟨b, off, hA, hbl, c0, c1, c2, c3, c4, c5, c6, c7, c8⟩ := HMD2.out.own.sl.sc hcs
        obtain ⟨rfl, rfl⟩ : g = b ∧ 0 = off := by simpa using hA
        simp only [Nat.zero_add] at c0 c1 c2 c3 c4 c5 c6 c7 c8
        have hk0 : (0 : Int) ≤ (i : Int) := by omega
        have hk1 : (i : Int) < (m : Int) := by omega
        have HCS := hide hcs
        have HSM := hide (List.mem_of_getElem? hs)
        have HSV := hide (HMD2.out.sv s (List.mem_of_getElem? hcs))
        have HSU := hide (curL_succ (v := v) hs)
        have HED := hide (errL_drop (v := v) (l := out.map Sc.v) (k := i) (s := s.v) (by simp [hs]))
        have hls := lt_of_get hcs
        rw [curL_len, HMM.out] at hls
        clear hs hcs hA
        have hgw : g < wr.heap.size := hbl
        have hXw : X < wr.heap.size := by omega
        by_cases hon : s.on = true
        · have HNE := hide (show ycE v s.v = (yearQ v s.rk s.rv s.ra s.rz s.l).2 by rw [ycE, if_pos (show s.v.on = true from hon)]; rfl)
          have HNV := hide (show ycSc v s = { s with y := (yearQ v s.rk s.rv s.ra s.rz s.l).1 } by rw [ycSc, if_pos hon])
          rw [hon] at c2
          obtain ⟨w6, hw6⟩ : ∃ W, wr.alloc (.cells (scC { s with on := true }) 121) = W := ⟨_, rfl⟩
          have hb6 : Below wr.heap.size wr w6 := by rw [← hw6]; exact (Below.refl _ _).alloc (Nat.le_refl _) _
          have hS6 : Blk w6 wr.heap.size 121 (scC { s with on := true }) := by rw [← hw6]; exact Blk.new _ _ _
          have k3 : w6.cell? ⟨wr.heap.size, 3, none⟩ = some (.int .i64 s.rk) := hS6.cell 3
          have k4 : w6.cell? ⟨wr.heap.size, 4, none⟩ = some (.int .i64 s.rv) := hS6.cell 4
          have k5 : w6.cell? ⟨wr.heap.size, 5, none⟩ = some (.int .i64 s.ra) := hS6.cell 5
          have k6 : w6.cell? ⟨wr.heap.size, 6, none⟩ = some (.int .i64 s.rz) := hS6.cell 6
          have k7 : w6.cell? ⟨wr.heap.size, 7, none⟩ = some (.slice s.A s.l.length s.cap) := hS6.cell 7
          have hXb := (HX4.out.below HBW.out hX4).below hb6 hXw
          have v0 := hXb.cell 0
          have v1 := hXb.cell 1
          have v2 := hXb.cell 2
          have v3 := hXb.cell 3
          have v4 := hXb.cell 4
          have v5 := hXb.cell 5
          have v6 := hXb.cell 6
          have v7 := hXb.cell 7
          have v8 := hXb.cell 8
          simp [boxV] at v0 v1 v2 v3 v4 v5 v6 v7 v8
          have HW6 := hide hw6
          have HB6 := hide hb6
          have HM6 := hide (HMD2.out.below hb6)
          obtain ⟨R, hR⟩ : ∃ R, yearQ v s.rk s.rv s.ra s.rz s.l = R := ⟨_, rfl⟩
          rw [hR] at HNE HNV
          have HYC := hide (yearC_any x s.rk s.rv s.ra s.rz s.A s.cap s.l.length s.l w6 ((HXO4.out.below HBW.out).below hb6) (HSV.out.below hb6) (HOKC.out s HSM.out))
          rw [HXV.out, hR] at HYC
          clear hw6 hb6 hS6 hXb hR
          obtain ⟨y, er⟩ := R
          simp only at HNE HNV
          go_upto_region 10 with fail
          rw [show wr.alloc (.cells #[.int .i64 s.f, .int .i64 s.t, .bool true, .int .i64 s.rk, .int .i64 s.rv, .int .i64 s.ra, .int .i64 s.rz, .slice s.A s.l.length s.cap, .int .i64 s.y] 121) = w6 from HW6.out]
          have k2 : w6.cell? ⟨wr.heap.size, 2, none⟩ = some (.bool true) := by rw [← HW6.out]; exact (Blk.new wr 121 (scC { s with on := true })).cell 2
          clear c0 c1 c2 c3 c4 c5 c6 c7 c8
          go_wp2_with fail
          refine HYC.out.mono ?_
          rintro e w7 ⟨rfl, h7⟩
          have HM7 := hide (HM6.out.below h7)
          have hgw7 : g < w7.heap.size := by have := h7.size; have := HB6.out.size; omega
          have e8 : w7.cell? ⟨g, i * 9 + 8, none⟩ = some (.int .i64 s.y) := by
            obtain ⟨b', off', hA', -, -, -, -, -, -, -, -, -, q8⟩ := HM7.out.own.sl.sc HCS.out
            obtain ⟨rfl, rfl⟩ : g = b' ∧ 0 = off' := by simpa using hA'
            simpa using q8
          have f8 : w7.frozen? ⟨g, i * 9 + 8, none⟩ = false := HM7.out.own.frozen _
          have HB7 := hide (chain HBW.out (chain HB6.out h7))
          clear h7 k2 k3 k4 k5 k6 k7 v0 v1 v2 v3 v4 v5 v6 v7 v8
          by_cases her : er = 0
          · subst her
            go_wp2_with fail
            go_roundw
            case rel => exact ⟨i + 1, by omega, by go_num, by rw [HSU.out, HNV.out]; exact HM7.out.set_ HCS.out, by have := HERR.out; rw [HED.out, HNE.out, if_pos rfl] at this; exact this, HB7.out.setCell (by have := (HM7.out.own.lt g rfl).1; exact this) _⟩
            case measure => simp [RowKit.intOf]; omega
          · have hne : (er != 0) = true := by simpa using her
            have hE : E = er := by
              have := HERR.out
              rw [HED.out, HNE.out, if_neg her] at this
              exact this.symm
            have HNZ := hide her
            subst hE
            clear her
            go_wp2_with fail
            go_ret2
            exact ⟨chain HB4.out (HB7.out.setCell (by have := (HM7.out.own.lt g rfl).1; exact this) _), .inl ⟨HNZ.out, rfl⟩⟩
        · have hoff : s.on = false := by simpa using hon
          have HNE := hide (show ycE v s.v = 0 by rw [ycE, if_neg (show ¬s.v.on = true from hon)])
          have HNV := hide (show ycSc v s = s by rw [ycSc, if_neg hon])
          rw [hoff] at c2
          clear hon hoff
          go_wp2_with fail
          go_roundw
          case rel => exact ⟨i + 1, by omega, by go_num, by
              rw [HSU.out, HNV.out, set_self HCS.out]
              exact HMD2.out.below ((Below.refl _ _).alloc (Nat.le_refl _) _), by have := HERR.out; rw [HED.out, HNE.out, if_pos rfl] at this; exact this, HBW.out.alloc hsz _⟩
          case measure => simp [RowKit.intOf]; omega
      · obtain rfl : i = m := by omega
        have hE : E = 0 := by
          have := HERR.out
          rw [List.drop_eq_nil_of_le (by simp [HMM.out])] at this
          exact this.symm
        subst hE
        go_wp2_with fail
        go_ret2
        exact ⟨chain HB4.out HBW.out, .inr ⟨rfl, A5, cap5, curL v out i, by rw [curL_len, HMM.out]; rfl, HVE.out.symm, ⟨HMD2.out.own.mono (by have := HB4.out.size; omega), HMD2.out.sv, HMD2.out.ap⟩⟩⟩
end Go.Proofs.YtmfohnchnbgbaaaGreatDoor
