/- Part 22 of the proof. -/
import Derived.Test.YtmfohnchnbgbaaaGreatTcM08
import Derived.Test.YtmfohnchnbgbaaaGreatTcM21
/- What is paid, step by step: the plain model. -/
namespace Go.Proofs.YtmfohnchnbgbaaaGreat
open Go.RowKit
set_option linter.unusedSimpArgs false

/-- What is shown and paid of each file, what is paid in all, and the rows. -/
structure PS where
  sh : List Int
  pd : List Int
  all : Int
  out : List R3
def geI (l : List Int) (f : Nat) : Int := (l[f]?).getD 0
def morQ (c : Cv) (s : PS) (x : Stp) : Int := paysQ c (geI s.sh x.f.toNat + x.m) (s.all - geI s.pd x.f.toNat) - geI s.pd x.f.toNat
def pStep (c : Cv) (s : PS) (x : Stp) : PS :=
  if x.k = 2 then (if morQ c s x ≤ 0 then { s with sh := s.sh.set x.f.toNat (geI s.sh x.f.toNat + x.m) }
    else ⟨s.sh.set x.f.toNat (geI s.sh x.f.toNat + x.m), s.pd.set x.f.toNat (geI s.pd x.f.toNat + morQ c s x), s.all + morQ c s x, s.out ++ [⟨x.f, x.b, morQ c s x⟩]⟩)
  else s
def pInit (n : Nat) : PS := ⟨List.replicate n 0, List.replicate n 0, 0, []⟩
def pRun (c : Cv) (n : Nat) (S : List Stp) : PS := S.foldl (pStep c) (pInit n)
theorem pRun_take {c : Cv} {n : Nat} {S : List Stp} {k : Nat} {x : Stp} (h : S[k]? = some x) : pRun c n (S.take (k + 1)) = pStep c (pRun c n (S.take k)) x := by
  rw [take_of h, pRun, List.foldl_append]; rfl
theorem geI_of {l : List Int} {f : Nat} {v : Int} (h : l[f]? = some v) : geI l f = v := by unfold geI; rw [h]; rfl
theorem sum_set : ∀ {l : List Int} {f : Nat} {v u : Int}, l[f]? = some v → (l.set f u).sum = l.sum - v + u
  | [], f, v, u, h => by simp at h
  | a :: r, 0, v, u, h => by simp at h; subst h; simp; omega
  | a :: r, f + 1, v, u, h => by
    have := sum_set (l := r) (u := u) (by simpa using h)
    simp [this]; omega
theorem sum_nn : ∀ {l : List Int}, (∀ x ∈ l, 0 ≤ x) → 0 ≤ l.sum
  | [], _ => by simp
  | a :: r, hp => by
    have h1 := sum_nn (l := r) (fun x hx => hp x (by simp [hx]))
    have h2 := hp a (by simp)
    simp; omega
theorem sum_ge : ∀ {l : List Int} {f : Nat} {v : Int}, (∀ x ∈ l, 0 ≤ x) → l[f]? = some v → v ≤ l.sum
  | [], f, v, _, h => by simp at h
  | a :: r, 0, v, hp, h => by
    simp at h; subst h
    have h2 : 0 ≤ r.sum := sum_nn fun x hx => hp x (by simp [hx])
    simp; omega
  | a :: r, f + 1, v, hp, h => by
    have h1 := sum_ge (l := r) (fun x hx => hp x (by simp [hx])) (by simpa using h)
    have := hp a (by simp)
    simp; omega
/-- What file f was paid, by the rows. -/
def byF (f : Nat) (l : List R3) : Int := ((l.filter fun x => decide (x.a = (f : Int))).map (·.m)).sum
theorem byF_snoc (f : Nat) (l : List R3) (x : R3) : byF f (l ++ [x]) = byF f l + if x.a = (f : Int) then x.m else 0 := by
  unfold byF
  rw [List.filter_append]
  by_cases h : x.a = (f : Int)
  · rw [if_pos h]; simp [List.filter_cons, h]
  · rw [if_neg h]; simp [List.filter_cons, h]
/-- What holds from step to step. -/
structure PInv (n K : Nat) (s : PS) : Prop where
  ls : s.sh.length = n
  lp : s.pd.length = n
  sh : ∀ v ∈ s.sh, 0 ≤ v ∧ v ≤ K * 1000000000000000
  pd : ∀ v ∈ s.pd, 0 ≤ v
  su : s.pd.sum = s.all
  al : s.all ≤ 1000000000000000
  ro : ∀ r ∈ s.out, (∃ f : Nat, r.a = f ∧ f < n) ∧ 0 < r.m
  bf : ∀ (f : Nat) (v : Int), s.pd[f]? = some v → byF f s.out = v
  tot : (s.out.map (·.m)).sum = s.all
  ol : s.out.length ≤ K
theorem pInit_inv (n : Nat) : PInv n 0 (pInit n) := by
  refine ⟨by simp [pInit], by simp [pInit], fun v hv => ?_, fun v hv => ?_, by simp [pInit], by simp [pInit], by simp [pInit], fun f v hf => ?_, by simp [pInit], by simp [pInit]⟩
  · have := (List.mem_replicate.1 hv).2; omega
  · have := (List.mem_replicate.1 hv).2; omega
  · have := List.mem_of_getElem? hf
    have := (List.mem_replicate.1 this).2
    subst this
    rfl
/-- What is asked of a step. -/
def okStp (n : Nat) (x : Stp) : Prop := (∃ f : Nat, x.f = f ∧ f < n) ∧ 0 ≤ x.m ∧ x.m ≤ 1000000000000000
theorem pay_bd {n K : Nat} {c : Cv} {s : PS} {x : Stp} (hc : coverB c = true) (h : PInv n K s) (hx : okStp n x) :
    0 ≤ geI s.sh x.f.toNat ∧ geI s.sh x.f.toNat ≤ K * 1000000000000000 ∧ 0 ≤ geI s.pd x.f.toNat ∧ geI s.pd x.f.toNat ≤ s.all ∧ 0 ≤ s.all ∧ s.all + morQ c s x ≤ 1000000000000000 ∧ -1000000000000000 ≤ morQ c s x := by
  obtain ⟨⟨f, hf, hfn⟩, h0, h1⟩ := hx
  obtain ⟨v, hv⟩ := get_of (l := s.sh) (k := f) (by rw [h.ls]; exact hfn)
  obtain ⟨p, hp⟩ := get_of (l := s.pd) (k := f) (by rw [h.lp]; exact hfn)
  have e1 : geI s.sh x.f.toNat = v := by rw [hf, Int.toNat_natCast]; exact geI_of hv
  have e2 : geI s.pd x.f.toNat = p := by rw [hf, Int.toNat_natCast]; exact geI_of hp
  have b1 := h.sh v (List.mem_of_getElem? hv)
  have b2 := h.pd p (List.mem_of_getElem? hp)
  have b3 := sum_ge h.pd hp
  have b4 := sum_nn h.pd
  rw [h.su] at b3 b4
  have b5 := h.al
  have b6 := paysQ_bd c (geI s.sh x.f.toNat + x.m) (s.all - geI s.pd x.f.toNat)
  have b7 := coverB_parts hc
  unfold morQ
  rw [e1, e2] at *
  refine ⟨b1.1, b1.2, b2, b3, b4, ?_, ?_⟩ <;> omega
theorem pStep_inv {n K : Nat} {c : Cv} {s : PS} {x : Stp} (hc : coverB c = true) (h : PInv n K s) (hx : okStp n x) : PInv n (K + 1) (pStep c s x) := by
  obtain ⟨q1, q2, q3, q4, q5, q6, q7⟩ := pay_bd hc h hx
  obtain ⟨⟨f, hf, hfn⟩, h0, h1⟩ := hx
  have hft : x.f.toNat = f := by omega
  have hsh : ∀ v ∈ s.sh.set x.f.toNat (geI s.sh x.f.toNat + x.m), 0 ≤ v ∧ v ≤ ((K + 1 : Nat) : Int) * 1000000000000000 := fun v hv => by
    rcases List.mem_or_eq_of_mem_set hv with hv | rfl
    · have := h.sh v hv; omega
    · omega
  unfold pStep
  split
  · split
    · exact ⟨by simpa using h.ls, h.lp, hsh, h.pd, h.su, h.al, h.ro, h.bf, h.tot, by have := h.ol; show s.out.length ≤ K + 1; omega⟩
    · rename_i hm
      obtain ⟨p, hp⟩ := get_of (l := s.pd) (k := f) (by rw [h.lp]; exact hfn)
      have e2 : geI s.pd x.f.toNat = p := by rw [hft]; exact geI_of hp
      refine ⟨by simpa using h.ls, by simpa using h.lp, hsh, fun v hv => ?_, ?_, q6, fun r hr => ?_, fun g v hg => ?_, ?_, ?_⟩
      · rcases List.mem_or_eq_of_mem_set hv with hv | rfl
        · exact h.pd v hv
        · omega
      · show (s.pd.set x.f.toNat (geI s.pd x.f.toNat + morQ c s x)).sum = s.all + morQ c s x
        rw [hft] at *
        rw [sum_set hp, h.su, e2]; omega
      · rcases List.mem_append.1 hr with hr | hr
        · exact h.ro r hr
        · rw [List.mem_singleton] at hr
          subst hr
          exact ⟨⟨f, hf, hfn⟩, by show 0 < morQ c s x; omega⟩
      · show byF g (s.out ++ [⟨x.f, x.b, morQ c s x⟩]) = v
        rw [byF_snoc]
        replace hg : (s.pd.set f (p + morQ c s x))[g]? = some v := by rw [← e2, ← hft]; exact hg
        by_cases hgf : g = f
        · subst hgf
          rw [List.getElem?_set_self (by rw [h.lp]; exact hfn)] at hg
          rw [h.bf g p hp, if_pos hf]
          exact Option.some.inj hg
        · rw [List.getElem?_set_ne (Ne.symm hgf)] at hg
          rw [h.bf g v hg, if_neg (by show ¬ x.f = (g : Int); omega)]
          omega
      · show ((s.out ++ [(⟨x.f, x.b, morQ c s x⟩ : R3)]).map (fun r : R3 => r.m)).sum = s.all + morQ c s x
        rw [List.map_append, List.sum_append, h.tot]; simp
      · show (s.out ++ [_]).length ≤ K + 1
        have := h.ol
        simp; omega
  · have h2 := h.ol
    refine ⟨h.ls, h.lp, fun v hv => ?_, h.pd, h.su, h.al, h.ro, h.bf, h.tot, by omega⟩
    have := h.sh v hv
    omega
theorem pRun_inv {n : Nat} {c : Cv} {S : List Stp} (hc : coverB c = true) (hS : ∀ x ∈ S, okStp n x) : ∀ k, k ≤ S.length → PInv n k (pRun c n (S.take k))
  | 0, _ => by simpa [pRun] using pInit_inv n
  | k + 1, hk => by
    obtain ⟨x, hx⟩ := get_of (l := S) (k := k) (by omega)
    rw [pRun_take hx]
    exact pStep_inv hc (pRun_inv hc hS k (by omega)) (hS x (List.mem_of_getElem? hx))
/-- The steps of files that may be. -/
theorem steps_ok {c : Cv} {L : List Fl} (h : rightF c L = true) : ∀ x ∈ stepsL 0 L, okStp L.length x := fun x hx => by
  obtain ⟨k, y, a, h1, h2, rfl⟩ := stepsL_mem hx
  have h3 := ((right_file h).2 y (List.mem_of_getElem? h1)).2.2
  obtain ⟨j, hj⟩ := List.mem_iff_getElem?.1 h2
  have h4 := (putC_zero (madeB_at h3 hj)).1
  have h5 := right_parts h4
  exact ⟨⟨k, by simp, lt_of_get h1⟩, h5.2.2.2.2.1, h5.2.2.2.2.2.1⟩
/-- The rows of what was paid. -/
noncomputable def paidS (c : Cv) (L : List Fl) : PS := pRun c L.length (sortS (stepsL 0 L))
theorem sort_ok {c : Cv} {L : List Fl} (h : rightF c L = true) : ∀ x ∈ sortS (stepsL 0 L), okStp L.length x := fun x hx => steps_ok h x ((sortS_perm _).mem_iff.1 hx)
theorem paid_inv {c : Cv} {L : List Fl} (h : rightF c L = true) : PInv L.length (actsN L) (paidS c L) := by
  have := pRun_inv (right_file h).1 (sort_ok h) (sortS (stepsL 0 L)).length (Nat.le_refl _)
  rw [List.take_length, sortS_len, stepsL_len] at this
  exact this
end Go.Proofs.YtmfohnchnbgbaaaGreat
