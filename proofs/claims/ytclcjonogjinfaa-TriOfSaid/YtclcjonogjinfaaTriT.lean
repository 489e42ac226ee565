/- One row more: append to a slice that is full; an amount put, from a base on; one row more is one amount put. -/
import Derived.Test.YtclcjonogjinfaaTriS
import Derived.Deep.RegionLawGrows
namespace Go.Proofs.Ytclcjonogjinfaa
open Go.RowKit

/-- append to a slice that is full, and is not the call's own. -/
theorem step_app_new {P : Program} {w : World} {ops : Array Oper} {o : Oper} {a : Act} {K : Act → World → Prop} {Q : Exit → Act → World → Prop} {E : Prop} (hgd : o.guard = none) (s x : Operand) (t : TypeId) (ho : o.op = .call { callee := .builtin .append, args := #[s, x], argTypes := #[t, t] })
    {e : TypeId} {sz bytes : Nat} (T : ElT P t e sz bytes) {A : Option Addr} {n cap : Nat} {rows : List (List Value)} (hs : a.eval s = .slice A n cap) (hr0 : Sl w w.heap.size sz A rows) (hl0 : rows.length = n) (hok0 : RowsOk sz rows) (hnone : A = none → n = 0 ∧ cap = 0)
    {ad : Addr} {m c : Nat} {news : List (List Value)} (hx : a.eval x = .slice (some ad) m c) (hl : news.length = m) (hr : Sl w w.heap.size sz (some ad) news) (hok : RowsOk sz news) (hfull : cap < n + m) (h63 : n + m ≤ maxLen) (hbytes : (n + m) * bytes ≤ 140737488355328)
    (h : ∀ A' cap' w', OwnS w' w.heap.size e sz A' (n + m) cap' (rows ++ news) → w.grownBy w' none → K (a.put o.dst (.slice A' (n + m) cap')) w') :
    if Region.wanted o (yielded ops a.tmps) = true then Oper.wp P o a w K Q else E := by
  obtain ⟨ht, ⟨i, z, hi, hz, hsize, hby, hzs⟩, hsz⟩ := T
  have cells : ∀ (B : Addr) (R : List (List Value)), RowsOk sz R → Sl w w.heap.size sz (some B) R → ∀ j u, R.flatten[j]? = some u → w.cell? (B.add j) = some u := by
    intro B R hR hS q u hu
    obtain ⟨i', row, j, h1, h2, rfl⟩ := at_flat hsz hR q u hu
    obtain ⟨b, off, he, _, hc⟩ := hS i' row h1
    cases he
    rw [← hc j u h2]
    congr 1
    unfold Addr.add
    split
    · simp_all
    · rfl
  refine step_append_grows hgd s x t ho e i z sz bytes ht hi hz hsize hby hzs hsz A n cap rows.flatten hs hnone (by rw [flat_len hok0, hl0]) (fun b hb j u hu => cells b rows hok0 (by rw [← hb]; exact hr0) j u hu) ad m c news.flatten hx (by rw [flat_len hok, hl]) (cells ad news hok hr)
    (fun u hu => by obtain ⟨r, hr', hu'⟩ := List.mem_flatten.1 hu; exact (hok r hr').2 u hu') hfull h63 hbytes (fun v' w' h2 h3 => ?_)
  have hv : ∃ A' cap', v' = .slice A' (n + m) cap' := by
    rcases h2.2 with ⟨h, h0⟩ | ⟨g, c', cur, h, _⟩
    · exact ⟨none, 0, by rw [h, h0]⟩
    · exact ⟨_, _, h⟩
  obtain ⟨A', cap', rfl⟩ := hv
  exact h A' cap' w' ⟨by rw [List.flatten_append]; exact h2, by rw [List.length_append, hl0, hl], hok0.app hok⟩ h3

section
variable {w0 w : World} {A : Option Addr} {n cap : Nat} {M : List Rw}
theorem put_b {f y dev amt : Int} {C : List (List Int)} {m : Nat} (hs : MV w0 A n cap M) (hb : Below w0.heap.size w0 w) (hf : ok64 f) (hE : putE f (allM M) y dev amt = 0) (hC : putR f (allM M) y dev amt = C) (hm : C.length = m) :
    Calls Try.prog 20 #[.agg #[.int .i64 f, .slice A n cap], .int .i64 y, .int .i64 dev, .int .i64 amt] w (OfB w0 w f C m) := by
  obtain rfl := hs.len
  subst hC hm
  refine (put_any f A cap M y dev amt w (hs.below hb) hf).mono fun e w' h => ?_
  rw [hE] at h
  obtain ⟨h1, A', c', R, he, hmv, hr, hfr⟩ := h.yes
  have hl : R.length = (putR f (allM M) y dev amt).length := by rw [← hr, allM_len]
  rw [hl] at he hmv
  exact ⟨A', c', R, he, hmv, hr, hfr, from_base hb h1⟩
end

theorem more_one {l : List R3} {x : R3} (h0 : ofE l = 0) (h1 : ofE (l ++ [x]) = 0) (hF : fromL (l ++ [x]) = fromL l) (hm : (ofC (l ++ [x])).length = (ofC l).length) :
    ofE [x] = 0 ∧ fromL [x] = yrV x.a ∧ 1 ≤ (ofC [x]).length ∧ ((ofC [x]).length : Int) - 1 = devO x ∧ putE (fromL l) (ofC l) (yrV x.a) (devO x) x.m = 0 ∧ putR (fromL l) (ofC l) (yrV x.a) (devO x) x.m = ofC (l ++ [x]) := by
  obtain ⟨_, hc0, ho0, hs0, hr0, _, _, hf1, hf2, hl0⟩ := made h0
  obtain ⟨hn1, hc1, ho1, hs1, hr1, hy1, hy2, _, _, hl1⟩ := made h1
  have hyy : yearsN (l ++ [x]) = yearsN l := by rw [← hl1, ← hl0, hm]
  have hxm : x ∈ l ++ [x] := by simp
  have hcx := chkL_ok.1 hc1 x hxm
  obtain ⟨k1, k2, k3, k4, k5⟩ := chk_ok hcx
  obtain ⟨y1, y2, y3⟩ := chk_yr hcx
  have hfit := fits_all hc1 hn1 hxm
  rw [hF, hyy] at hfit
  obtain ⟨g1, g2, g3, g4, _, _⟩ := hfit
  have hfr : fromL [x] = yrV x.a := by simp only [fromL, List.foldl_cons, List.foldl_nil]; omega
  have hto : toL [x] = yrV x.b := by simp only [toL, List.foldl_cons, List.foldl_nil]; omega
  have hyx : (yearsN [x] : Int) = devO x + 1 := by unfold yearsN devO; rw [hfr, hto]; omega
  have hbnd : ¬(2000 < ([x] : List R3).length ∨ 20 < toL [x] - fromL [x] + 1) := by
    rw [hfr, hto]
    have : devO x = yrV x.b - yrV x.a := rfl
    simp only [List.length_cons, List.length_nil]
    omega
  have hcx1 : chkL [x] = 0 := chkL_ok.2 (fun z hz => by simp at hz; subst hz; exact hcx)
  have hz : ∀ (r : List Int), (zerosT (yearsN [x])).getD (idxO (fromL [x]) x) [] = r → ∀ v ∈ r, v = 0 := by
    intro r hr v hv
    subst hr
    rw [List.getD_eq_getElem?_getD] at hv
    cases hg : (zerosT (yearsN [x]))[idxO (fromL [x]) x]? with
    | none => rw [hg] at hv; simp at hv
    | some q =>
      have hlt := lt_of_get hg
      rw [zerosT_len] at hlt
      rw [zerosT_get hlt] at hg
      cases hg
      rw [zerosT_get hlt] at hv
      exact (List.mem_replicate.1 hv).2
  have hcap : capB (rowO (fromL [x]) (zerosT (yearsN [x])) x) = true := by
    refine capB_yes (fun v hv => ?_) (fun j v _ hv => ?_)
    · have := hz _ rfl v hv; omega
    · have := hz _ rfl v (List.mem_of_getElem? hv); omega
  have hox : ∃ c, ofO [x] = some c := ⟨_, by rw [ofO, putAll, if_pos hcap, putAll]⟩
  obtain ⟨cx, hox⟩ := hox
  have hex : ofE [x] = 0 := ofE_ok (by simp) hcx1 hbnd hox
  obtain ⟨_, _, _, _, _, q1, _, _, _, q2⟩ := made hex
  have hsn := putAll_snoc (f := fromL l) (x := x) (l := l) (c := zerosT (yearsN l))
  have e1 : putAll (fromL l) (zerosT (yearsN l)) (l ++ [x]) = some (ofC (l ++ [x])) := by rw [← ho1, ofO, hF, hyy]
  have e2 : putAll (fromL l) (zerosT (yearsN l)) l = some (ofC l) := ho0
  rw [e1, e2, Option.bind_some] at hsn
  have hcp : capB (rowO (fromL l) (ofC l) x) = true := by
    cases hh : capB (rowO (fromL l) (ofC l) x)
    · rw [hh] at hsn; simp at hsn
    · rfl
  rw [hcp, if_pos rfl] at hsn
  have hsn' := Option.some.inj hsn
  refine ⟨hex, hfr, by omega, by omega, ?_, ?_⟩
  · rw [putE, if_neg, if_neg]
    · have : rowO (fromL l) (ofC l) x = moreL (devO x) x.m ((ofC l).getD (yrV x.a - fromL l).toNat []) := rfl
      rw [← this, hcp]; simp
    · rw [hr0, hl0]
      unfold idxO at g2 g4
      simp
      omega
  · rw [hsn']; rfl
end Go.Proofs.Ytclcjonogjinfaa
