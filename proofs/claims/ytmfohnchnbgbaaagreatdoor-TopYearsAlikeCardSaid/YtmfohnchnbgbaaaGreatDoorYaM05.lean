/- Part 5 of the proof. -/
import Derived.Deep.RegionHeld3
import Derived.WalkLawsBesides
import Derived.Recover
import Derived.Defers
import Derived.WalkMore
import Derived.ScopeJumps
import Derived.Test.YtmfohnchnbgbaaaGreatDoorYaM04
/- A drawn region whose last operations write what its first ones read. -/
namespace Go.Proofs.YtmfohnchnbgbaaaGreatDoor
section
variable {P : Program} {ops : Array Oper} {Q : Exit → Act → World → Prop} {md : Region.Mode} {S : World → Prop} {ks : List Nat}

/-- Whatever order is picked; behind each operation that is not among 'ks' the condition holds. -/
def wpAnyT (P : Program) (md : Region.Mode) (ops : Array Oper) (Q : Exit → Act → World → Prop) (S : World → Prop) (ks : List Nat) : Nat → Array Bool → Act → World → Prop
  | 0, L, a, w => Region.ready md ops L = [] ∧ Q .normal a w
  | g + 1, L, a, w => (Region.ready md ops L = [] → Q .normal a w) ∧
    ∀ i ∈ Region.ready md ops L, wpOp P ops Q i (fun a' w' => (ks.contains i = false → S w') ∧ wpAnyT P md ops Q S ks g (L.setIfInBounds i true) a' w') a w
theorem wpAny_of_T : ∀ (g : Nat) (L : Array Bool) (a : Act) (w : World), wpAnyT P md ops Q S ks g L a w → wpAny P md ops Q g L a w
  | 0, _, _, _, h => h
  | g + 1, _, _, _, h => ⟨h.1, fun i hi => wpOp_mono (fun a' w' h' => wpAny_of_T g _ a' w' h'.2) (h.2 i hi)⟩
/-- Those of 'ks' that have not come up wait for number i. -/
def waits (md : Region.Mode) (ops : Array Oper) (ks : List Nat) (L : Array Bool) (i : Nat) : Bool :=
  ks.all fun j => L.getD j true || (match ops[j]? with | some o => o.after.any (fun e => Region.binds md e && e.on == i) | none => true)
theorem waits_spec {i j : Nat} {L : Array Bool} {oj : Oper} (h : waits md ops ks L i = true) (hj : ops[j]? = some oj) (hm : ks.contains j = true) (hL : L.getD j true = false) : ∃ e ∈ oj.after, Region.binds md e = true ∧ e.on = i := by
  have h1 := List.all_eq_true.1 h j (by simpa using hm)
  rw [hj, hL, Bool.false_or] at h1
  obtain ⟨e, he, h3⟩ := Array.any_eq_true'.1 h1
  rw [Bool.and_eq_true] at h3
  exact ⟨e, he, h3.1, by simpa using h3.2⟩
theorem waits_set {i j : Nat} {L : Array Bool} (h : waits md ops ks L i = true) : waits md ops ks (L.setIfInBounds j true) i = true := by
  refine List.all_eq_true.2 fun k hk => ?_
  have h1 := List.all_eq_true.1 h k hk
  by_cases hjk : j = k
  · subst hjk
    have : (L.setIfInBounds j true).getD j true = true := by
      rw [Array.getD_eq_getD_getElem?]
      by_cases hs : j < L.size
      · simp [hs]
      · simp [hs]
    rw [this, Bool.true_or]
  · rw [getD_set_ne true hjk]; exact h1
theorem hnot_of {i : Nat} {L : Array Bool} {oj : Oper} (hr : i ∈ Region.ready md ops L) (hall : ∀ e ∈ oj.after, Region.binds md e = true → L.getD e.on false = true) : ∀ e ∈ oj.after, Region.binds md e = true → e.on ≠ i := fun e he hb heq => by
  have k1 := hall e he hb
  have k0 := (mem_ready.1 hr).1
  rw [heq] at k1
  rcases Nat.lt_or_ge i L.size with h' | h'
  · simp [h'] at k0 k1; rw [k0] at k1; cases k1
  · simp [Array.getElem?_eq_none h'] at k1
theorem wpAnyT_first {i : Nat} {oi : Oper} {v : Value} {T : World → Prop} (hi : ops[i]? = some oi) (hsel : ∀ (j : Nat) (o : Oper) cs b, ops[j]? = some o → o.op ≠ .select cs b)
    (hQ : ∀ c a w, Q (.panic c) (a.put oi.dst v) w → Q (.panic c) a w) (hST : ∀ w, S w → T w) (hki : ks.contains i = true ∧ (∀ w, T w) ∨ ∀ w, T w → S w) :
    ∀ (g : Nat) (L : Array Bool) (a : Act) (w : World), ((∀ w, T w) ∨ waits md ops ks L i = true) →
      (∀ j oj, ops[j]? = some oj → j ≠ i → L.getD j true = false → (∀ e ∈ oj.after, Region.binds md e = true → e.on ≠ i) → oi.apart ops oj = true) →
      i ∈ Region.ready md ops L → YieldsIf P ops T oi v a → T w → wpAnyT P md ops Q S ks g (L.setIfInBounds i true) (a.put oi.dst v) w → wpAnyT P md ops Q S ks (g + 1) L a w := by
  have hSw : ∀ w, T w → ks.contains i = false → S w := fun w hT hc => by
    rcases hki with ⟨h, -⟩ | h
    · rw [h] at hc; cases hc
    · exact h w hT
  intro g
  induction g with
  | zero =>
    intro L a w _ _ hr hy hT H
    refine ⟨fun h => (by rw [h] at hr; cases hr), fun j hj => ?_⟩
    by_cases hji : j = i
    · subst hji; exact hy.wpOp hi hT ⟨hSw w hT, H⟩
    · have := ready_mono hj hji
      rw [H.1] at this
      cases this
  | succ g ih =>
    intro L a w hwt hfree hr hy hT H
    refine ⟨fun h => (by rw [h] at hr; cases hr), fun j hj => ?_⟩
    by_cases hji : j = i
    · subst hji; exact hy.wpOp hi hT ⟨hSw w hT, H⟩
    · have h1 := H.2 j (ready_mono hj hji)
      obtain ⟨hjun, oj, hoj, hall⟩ := mem_ready.1 hj
      have hnot := hnot_of hr hall
      have hTj : ∀ w', (ks.contains j = false → S w') → T w' := fun w' hS => by
        rcases hwt with h | h
        · exact h w'
        · cases hc : ks.contains j with
          | false => exact hST w' (hS hc)
          | true =>
            obtain ⟨e, he, hb, heq⟩ := waits_spec h hoj hc hjun
            exact absurd heq (hnot e he hb)
      have h2 := wpOp_putIf hoj (hfree j oj hoj hji hjun hnot) (fun cs b => hsel i oi cs b hi) (fun cs b => hsel j oj cs b hoj) hQ hy h1
      have hfree' : ∀ k ok, ops[k]? = some ok → k ≠ i → (L.setIfInBounds j true).getD k true = false → (∀ e ∈ ok.after, Region.binds md e = true → e.on ≠ i) → oi.apart ops ok = true := fun k ok hk hki hun hno => by
        refine hfree k ok hk hki ?_ hno
        by_cases hjk : j = k
        · subst hjk; exact hjun
        · rw [getD_set_ne true hjk] at hun; exact hun
      refine wpOp_mono (fun a' w' h3 => ⟨h3.2.1, ih (L.setIfInBounds j true) a' w' (hwt.imp id waits_set) hfree' (ready_mono hr (Ne.symm hji)) h3.1 (hTj w' h3.2.1) ?_⟩) h2
      rw [Array.setIfInBounds_comm _ _ hji]
      exact h3.2.2
/-- What reads under the condition is taken first. -/
theorem wpAnyT_take {i : Nat} {oi : Oper} {v : Value} {g : Nat} {L : Array Bool} {a : Act} {w : World} (hi : ops[i]? = some oi) (hs : Region.noSelect ops = true) (hf : Region.free md ops L i = true)
    (hr : (Region.ready md ops L).contains i = true) (hwt : waits md ops ks L i = true) (hQ : ∀ c a w, Q (.panic c) (a.put oi.dst v) w → Q (.panic c) a w) (hy : YieldsIf P ops S oi v a) (hS : S w)
    (h : wpAnyT P md ops Q S ks g (L.setIfInBounds i true) (a.put oi.dst v) w) : wpAnyT P md ops Q S ks (g + 1) L a w :=
  wpAnyT_first (T := S) hi (Region.noSelect_spec hs) hQ (fun _ h => h) (.inr fun _ h => h) g L a w (.inr hwt) (Region.free_spec hi hf) (by simpa using hr) hy hS h
/-- What yields in whatever world, and is among 'ks'. -/
theorem wpAnyT_take0 {i : Nat} {oi : Oper} {v : Value} {g : Nat} {L : Array Bool} {a : Act} {w : World} (hi : ops[i]? = some oi) (hs : Region.noSelect ops = true) (hf : Region.free md ops L i = true)
    (hr : (Region.ready md ops L).contains i = true) (hk : ks.contains i = true) (hQ : ∀ c a w, Q (.panic c) (a.put oi.dst v) w → Q (.panic c) a w) (hy : YieldsIf P ops (fun _ => True) oi v a)
    (h : wpAnyT P md ops Q S ks g (L.setIfInBounds i true) (a.put oi.dst v) w) : wpAnyT P md ops Q S ks (g + 1) L a w :=
  wpAnyT_first (T := fun _ => True) hi (Region.noSelect_spec hs) hQ (fun _ _ => trivial) (.inl ⟨hk, fun _ => trivial⟩) g L a w (.inl fun _ => trivial) (Region.free_spec hi hf) (by simpa using hr) hy trivial h
theorem wpAnyT_done {L : Array Bool} {a : Act} {w : World} (hr : Region.ready md ops L = []) (h : Q .normal a w) : ∀ g, wpAnyT P md ops Q S ks g L a w
  | 0 => ⟨hr, h⟩
  | _ + 1 => ⟨fun _ => h, by rw [hr]; simp⟩
def AllReadyT (P : Program) (md : Region.Mode) (ops : Array Oper) (Q : Exit → Act → World → Prop) (S : World → Prop) (ks : List Nat) (g : Nat) (L : Array Bool) (a : Act) (w : World) (rs : List Nat) : Prop :=
  ∀ i ∈ rs, wpOp P ops Q i (fun a' w' => (ks.contains i = false → S w') ∧ wpAnyT P md ops Q S ks g (L.setIfInBounds i true) a' w') a w
theorem AllReadyT.nil {g : Nat} {L : Array Bool} {a : Act} {w : World} : AllReadyT P md ops Q S ks g L a w [] := fun _ h => by cases h
theorem AllReadyT.cons {g : Nat} {L : Array Bool} {a : Act} {w : World} {i : Nat} {o : Oper} {rs : List Nat} (ho : ops[i]? = some o)
    (h : ∀ K' : Act → World → Prop, Shut (∀ a w, (ks.contains i = false → S w) → wpAnyT P md ops Q S ks g (L.setIfInBounds i true) a w → K' a w) → if Region.wanted o (yielded ops a.tmps) = true then Oper.wp P o a w K' Q else K' (a.put o.dst undef) w)
    (hs : AllReadyT P md ops Q S ks g L a w rs) : AllReadyT P md ops Q S ks g L a w (i :: rs) := fun j hj => by
  rcases List.mem_cons.1 hj with rfl | hj
  · exact wpOp_step ho (fun K' hK => h K' (fun a w hS hW => hK a w ⟨hS, hW⟩))
  · exact hs j hj
theorem wpAnyT_ready {rs : List Nat} {g : Nat} {L : Array Bool} {a : Act} {w : World} (hr : Region.ready md ops L = rs) (hne : rs ≠ []) (h : AllReadyT P md ops Q S ks g L a w rs) : wpAnyT P md ops Q S ks (g + 1) L a w :=
  ⟨fun h0 => absurd (hr ▸ h0) hne, hr ▸ h⟩
theorem wp_region_T {id n : Nat} {a : Act} {w : World} (S : World → Prop) (ks : List Nat) (hn : ops.size = n) (hm : P.follows .mixedOrders = true)
    (h : wpAnyT P .any ops Q S ks n (Array.replicate n false) a w.drew) : (Code.region id ops true).wp P Q a w := by
  subst hn
  exact wp_region_any hm (wpAny_of_T _ _ _ _ h)
end
theorem gx4 {w1 wb : World} {T : TypeId} {x y : Value} {row : Option Nat} (hg : ((w1.drew.alloc (.cells #[x] T)).alloc (.cells #[y] T)).grownBy wb row) (hne : ∀ k, row = some k → k < w1.heap.size) : Blk wb (w1.heap.size + 1) T #[y] :=
  Blk.grown (Blk.new' (by simp)) hg (fun e => by have := hne _ e.symm; omega)
theorem gx5 {w1 wb : World} {T : TypeId} {x y : Value} {row : Option Nat} (hg : ((w1.drew.alloc (.cells #[y] T)).alloc (.cells #[x] T)).grownBy wb row) (hne : ∀ k, row = some k → k < w1.heap.size) : Blk wb w1.heap.size T #[y] :=
  Blk.grown ((Blk.new' (by simp)).alloc _) hg (fun e => by have := hne _ e.symm; omega)
end Go.Proofs.YtmfohnchnbgbaaaGreatDoor

/- What is earned: one place more of the curve, the walk. -/
namespace Go.Proofs.YtmfohnchnbgbaaaGreatDoor
open Go.RowKit

set_option linter.unusedSimpArgs false in
set_option maxRecDepth 100000 in
set_option maxHeartbeats 8000000 in
theorem addc_any (B F : Nat) (A A2 : Option Addr) (c c2 : Nat) (s : List Int × List Int) (d v : Int) (w : World) (h : FS w B F A A2 c c2 s) (hl : s.1.length ≤ 100000) :
    Calls Tryz.prog 81 #[.int .i64 d, .int .i64 v, .pointer (some ⟨F, 0, none⟩)] w (AdcP w B F A A2 (addV d v s)) := by
  obtain ⟨a, vl⟩ := s
  have HF := hide h
  have z0 := h.f.cell 0
  have z1 := h.f.cell 1
  have k0 := h.f.frozen 0
  have k1 := h.f.frozen 1
  have hFl := h.f.lt
  simp at z0 z1 hl
  obtain ⟨n, hn⟩ : ∃ n, a.length = n := ⟨_, rfl⟩
  have hln : vl.length = n := by have := h.ln; simp at this; omega
  have hc1 := h.o1.cap_le
  have hc2 := h.o2.cap_le
  unfold maxLen at hc1 hc2
  simp only [hn, hln] at z0 z1 hl hc1 hc2
  have HN := hide hn
  have HLN := hide hln
  clear h hn hln
  obtain ⟨P, hP⟩ : ∃ P, popB d (a, vl) = P := ⟨_, rfl⟩
  have HP := hide hP
  clear hP
  go_enter Tryz.func81, Tryz.ntmps81
  go_upto_region 1 with fail
  go_cut [22] (fun q wx => q = .bool P ∧ w = wx)
  case first =>
    rcases nil_or_snoc a with rfl | ⟨r, x, rfl⟩
    · obtain rfl : n = 0 := by have := HN.out; simpa using this.symm
      have hp : P = false := by rw [← HP.out]; rfl
      subst hp
      go_wp2_with fail
      go_meet
      exact ⟨rfl, rfl⟩
    · obtain ⟨m, hm⟩ : ∃ m, r.length = m := ⟨_, rfl⟩
      obtain rfl : n = m + 1 := by have := HN.out; simp at this; omega
      have hp : P = (x == d) := by rw [← HP.out, popB]; simp
      obtain ⟨b, off, hA, -, c0⟩ := HF.out.o1.sl.i (k := m) (n := x) (by simp [← hm])
      subst hA hp
      have hm0 : (0 : Int) ≤ (m : Int) := by omega
      have hm1 : (m : Int) < ((m + 1 : Nat) : Int) := by omega
      have hm2 : (m : Int) < (m : Int) + 1 := by omega
      clear hm
      go_wp2_with fail
      go_meet
      exact ⟨rfl, rfl⟩
  case rest =>
    obtain ⟨rfl, rfl⟩ := hcut
    go_upto_if 22 with fail
    go_cut [5] (fun _ wx => PopP w B F A A2 c c2 (popV d (a, vl)) wx)
    case first =>
      cases P
      · have HV := hide (popV_no HP.out)
        go_wp2_with fail
        go_meet
        rw [HV.out]
        exact ⟨HF.out, fun _ _ => rfl, rfl, rfl, rfl, rfl⟩
      · have HV := hide (popV_yes HP.out)
        rcases nil_or_snoc a with rfl | ⟨r, x, rfl⟩
        · have := HP.out
          simp [popB] at this
        rcases nil_or_snoc vl with rfl | ⟨q, y, rfl⟩
        · have h1 := HN.out
          have h2 := HLN.out
          simp at h1 h2
          omega
        obtain ⟨m, hm⟩ : ∃ m, r.length = m := ⟨_, rfl⟩
        obtain rfl : n = m + 1 := by have := HN.out; simp at this; omega
        obtain rfl : x = d := by have := HP.out; simpa [popB] using this
        have hql : q.length = m := by have := HLN.out; simp at this; omega
        have HM := hide hm
        have HQ := hide hql
        have hm0 : (0 : Int) ≤ (m : Int) := by omega
        have hm1 : (m : Int) ≤ (c : Int) := by omega
        have hm2 : (m : Int) ≤ (c2 : Int) := by omega
        have hw : IntKind.i64.wrap ((m : Int) + 1 - 1) = (m : Int) := by rw [IntWalk.i64_in _ (by omega)]; omega
        clear hm hql
        go_wp2_with fail
        go_region
        all_goals
          go_wp2_with fail
          go_meet
        have hp := HF.out.pop
        rw [HM.out, HQ.out] at hp
        rw [HV.out]
        simpa using hp
    case rest =>
      obtain ⟨s1, hs1⟩ : ∃ s1, popV d (a, vl) = s1 := ⟨_, rfl⟩
      rw [hs1] at hcut
      have HS1 := hide hs1
      have HC := hide hcut
      obtain ⟨a1, v1⟩ := s1
      have hF1 := hcut.fs.f
      have y0 := hF1.cell 0
      have y1 := hF1.cell 1
      have l0 := hF1.frozen 0
      have l1 := hF1.frozen 1
      have lF := hF1.lt
      simp at y0 y1
      obtain ⟨n1, hn1⟩ : ∃ n, a1.length = n := ⟨_, rfl⟩
      have hln1 : v1.length = n1 := by have := hcut.fs.ln; simp at this; omega
      have hd1 := hcut.fs.o1.cap_le
      have hd2 := hcut.fs.o2.cap_le
      unfold maxLen at hd1 hd2
      have hl1 : n1 ≤ 100000 := by
        have : a1.length ≤ a.length := by
          have := HS1.out
          rw [popV] at this
          split at this <;> (cases this; simp <;> omega)
        rw [HN.out] at this
        omega
      simp only [hn1, hln1] at y0 y1 hd1 hd2
      have HN1 := hide hn1
      have HL1 := hide hln1
      clear hcut hs1 hF1 hn1 hln1 z0 z1 k0 k1
      obtain ⟨lv, hlv⟩ : ∃ x, (v1.getLast?).getD 0 = x := ⟨_, rfl⟩
      have HLV := hide hlv
      clear hlv
      go_upto_if 39 with fail
      obtain ⟨w1, rfl⟩ : ∃ W : World, W = wc := ⟨_, rfl⟩
      go_cut [6] (fun q wx => q = .int .i64 lv ∧ w1 = wx)
      case first =>
        rcases nil_or_snoc v1 with rfl | ⟨q, y, rfl⟩
        · obtain rfl : n1 = 0 := by have := HL1.out; simpa using this.symm
          have hp : lv = 0 := by rw [← HLV.out]; rfl
          subst hp
          go_wp2_with fail
          go_meet
          exact ⟨rfl, rfl⟩
        · obtain ⟨m, hm⟩ : ∃ m, q.length = m := ⟨_, rfl⟩
          obtain rfl : n1 = m + 1 := by have := HL1.out; simp at this; omega
          have hp : lv = y := by rw [← HLV.out]; simp
          subst hp
          obtain ⟨b, off, hA, -, c0⟩ := HC.out.fs.o2.sl.i (k := m) (n := lv) (by simp [← hm])
          rw [hA] at y1
          have hm0 : (0 : Int) ≤ (m : Int) := by omega
          have hm1 : (m : Int) < ((m + 1 : Nat) : Int) := by omega
          have hm2 : (m : Int) < (m : Int) + 1 := by omega
          clear hm hA
          go_wp2_with fail
          go_meet
          exact ⟨rfl, rfl⟩
      case rest =>
        obtain ⟨rfl, rfl⟩ := hcut
        have HA := hide (show addV d v (a, vl) = if v ≠ lv ∧ d ≤ 292194 then (a1 ++ [d], v1 ++ [v]) else (a1, v1) by rw [addV, HS1.out, pushV, HLV.out])
        by_cases hvl : v = lv
        · have hq : (v != lv) = false := by simpa using hvl
          have HA2 := hide (show addV d v (a, vl) = (a1, v1) by rw [HA.out, if_neg (by simp [hvl])])
          clear hvl
          go_wp2_with fail
          go_end0
          rw [HA2.out]
          exact ⟨rfl, ⟨A, A2, c, c2, HC.out.fs, fun b _ => ⟨id, id⟩⟩, fun b _ hb _ _ => HC.out.fr b hb, Nat.le_of_eq HC.out.g.symm, HC.out.k⟩
        by_cases hd : d ≤ 292194
        case neg =>
          have hq : (v != lv) = true := by simpa using hvl
          have HA2 := hide (show addV d v (a, vl) = (a1, v1) by rw [HA.out, if_neg (by omega)])
          clear hvl
          go_wp2_with fail
          go_end0
          rw [HA2.out]
          exact ⟨rfl, ⟨A, A2, c, c2, HC.out.fs, fun b _ => ⟨id, id⟩⟩, fun b _ hb _ _ => HC.out.fr b hb, Nat.le_of_eq HC.out.g.symm, HC.out.k⟩
        have hq : (v != lv) = true := by simpa using hvl
        have HA2 := hide (show addV d v (a, vl) = (a1 ++ [d], v1 ++ [v]) by rw [HA.out, if_pos ⟨hvl, hd⟩])
        clear hvl
        have hO1 := HC.out.fs.o1
        have hO2 := HC.out.fs.o2
        simp only [HN1.out, HL1.out] at hO1 hO2
        have HO1 := hide hO1
        have HO2 := hide hO2
        have hgt := HC.out.fs.gt
        have hsz := HC.out.fs.sz
        clear hO1 hO2
        go_wp2_with fail
        have hS0 : w1.drew.cell? ⟨F, 0, none⟩ = some (.slice A n1 c) ∧ w1.drew.cell? ⟨F, 1, none⟩ = some (.slice A2 n1 c2) := ⟨y0, y1⟩
        refine wp_region_T (fun W => W.cell? ⟨F, 0, none⟩ = some (.slice A n1 c) ∧ W.cell? ⟨F, 1, none⟩ = some (.slice A2 n1 c2)) [0, 2, 5, 7, 10, 11, 12, 13] rfl (by kernel_rfl) ?_
        refine wpAnyT_take0 (i := 0) (v := ?_) rfl (by kernel_rfl) (by kernel_rfl) (by kernel_rfl) (by kernel_rfl) (fun _ _ _ h => h) (Or.inl ⟨by rfl, ?_⟩) ?_
        rotate_left
        · intro W hSW
          go_simp
          try with_reducible rfl
        simp only [Act.put, List.setIfInBounds_toArray, List.set_cons_zero, List.set_cons_succ]
        refine wpAnyT_take0 (i := 2) (v := ?_) rfl (by kernel_rfl) (by kernel_rfl) (by kernel_rfl) (by kernel_rfl) (fun _ _ _ h => h) (Or.inl ⟨by rfl, ?_⟩) ?_
        rotate_left
        · intro W hSW
          go_simp
          try with_reducible rfl
        simp only [Act.put, List.setIfInBounds_toArray, List.set_cons_zero, List.set_cons_succ]
        refine wpAnyT_take0 (i := 5) (v := ?_) rfl (by kernel_rfl) (by kernel_rfl) (by kernel_rfl) (by kernel_rfl) (fun _ _ _ h => h) (Or.inl ⟨by rfl, ?_⟩) ?_
        rotate_left
        · intro W hSW
          go_simp
          try with_reducible rfl
        simp only [Act.put, List.setIfInBounds_toArray, List.set_cons_zero, List.set_cons_succ]
        refine wpAnyT_take0 (i := 7) (v := ?_) rfl (by kernel_rfl) (by kernel_rfl) (by kernel_rfl) (by kernel_rfl) (fun _ _ _ h => h) (Or.inl ⟨by rfl, ?_⟩) ?_
        rotate_left
        · intro W hSW
          go_simp
          try with_reducible rfl
        simp only [Act.put, List.setIfInBounds_toArray, List.set_cons_zero, List.set_cons_succ]
        refine wpAnyT_take (i := 1) (v := ?_) rfl (by kernel_rfl) (by kernel_rfl) (by kernel_rfl) (by kernel_rfl) (fun _ _ _ h => h) (Or.inl ⟨by rfl, ?_⟩) hS0 ?_
        rotate_left
        · intro W hSW
          obtain ⟨hs0, hs1⟩ := hSW
          go_simp
          try with_reducible rfl
        simp only [Act.put, List.setIfInBounds_toArray, List.set_cons_zero, List.set_cons_succ]
        refine wpAnyT_take (i := 6) (v := ?_) rfl (by kernel_rfl) (by kernel_rfl) (by kernel_rfl) (by kernel_rfl) (fun _ _ _ h => h) (Or.inl ⟨by rfl, ?_⟩) hS0 ?_
        rotate_left
        · intro W hSW
          obtain ⟨hs0, hs1⟩ := hSW
          go_simp
          try with_reducible rfl
        simp only [Act.put, List.setIfInBounds_toArray, List.set_cons_zero, List.set_cons_succ]
        refine wpAnyT_ready (rs := [3, 8]) (by kernel_rfl) (by simp) ?_
        refine AllReadyT.cons rfl (fun K hK => ?_) ?_
        · go_simp
          refine hK.out _ _ (fun _ => ?_) ?_
          · exact ⟨by go_simp, by go_simp⟩
          try simp only [Act.put, List.setIfInBounds_toArray, List.set_cons_zero, List.set_cons_succ]
          clear hK K
          refine wpAnyT_ready (rs := [4, 8]) (by kernel_rfl) (by simp) ?_
          refine AllReadyT.cons rfl (fun K hK => ?_) ?_
          · refine step_app rfl (.tmp 54) (.tmp 56) 36 rfl elInt (B := B) (rows := a1.map encI) (A2 := some ⟨_, 0, none⟩) (news := [d].map encI) rfl ?_ rfl rfl ?_ (okI [d]) ?_ ?_ ?_ ?_
            · (repeat (first | exact HO1.out | refine OwnS.drew ?_ | refine OwnS.alloc ?_ _))
            · first
                | exact sl_of_blk (cs := #[.int .i64 d]) (Blk.drew (Blk.new _ _ _))
                | exact sl_of_blk (cs := #[.int .i64 d]) (Blk.drew ((Blk.new _ _ _).alloc _))
                | exact sl_of_blk (cs := #[.int .i64 d]) (Blk.drew (Blk.new' (by simp)))
            · (simp only [maxLen]; omega)
            · omega
            · first | omega | (simp; try omega)
            intro A3 c3 wb ho3 hg3 ha3
            have hne : ∀ k, blk A = some k → k < w1.heap.size := fun k hk => (HO1.out.lt k hk).2
            have hbw := Below.grown_base (w1 := w1) hg3 (by repeat (first | exact Below.refl _ _ | refine Below.drew ?_ | (refine Below.alloc ?_ ?_ _; rotate_left; (simp; try omega; done))))
            have HFR := hide hbw.1
            have HKK := hide hbw.2.1
            have hzz := hbw.2.2
            have lFb : F < wb.heap.size := by omega
            have q0 := (heap_cell (o := 0) (HFR.out F lF (fun e => by have := (HO1.out.lt F e).1; omega))).trans y0
            have q1 := (heap_cell (o := 1) (HFR.out F lF (fun e => by have := (HO1.out.lt F e).1; omega))).trans y1
            have ho2b : OwnS wb B 3 1 A2 n1 c2 (v1.map encI) := by
              refine OwnS.kept ?_ hg3 ?_
              · (repeat (first | exact HO2.out | refine OwnS.drew ?_ | refine OwnS.alloc ?_ _))
              · exact ap_of HC.out.fs.ap
            have HO2B := hide ho2b
            have HO3 := hide ho3
            have HA3 := hide (new_of (w1 := w1) ha3 (by first | omega | (simp; try omega)))
            clear hne hbw ho2b ho3 hg3 ha3
            refine hK.out _ _ (fun _ => ⟨q0, q1⟩) ?_
            try simp only [Act.put, List.setIfInBounds_toArray, List.set_cons_zero, List.set_cons_succ]
            clear hK K
            refine wpAnyT_take0 (i := 10) (v := ?_) rfl (by kernel_rfl) (by kernel_rfl) (by kernel_rfl) (by kernel_rfl) (fun _ _ _ h => h) (Or.inl ⟨by rfl, ?_⟩) ?_
            rotate_left
            · intro W hSW
              go_simp
              try with_reducible rfl
            simp only [Act.put, List.setIfInBounds_toArray, List.set_cons_zero, List.set_cons_succ]
            refine wpAnyT_ready (rs := [8]) (by kernel_rfl) (by simp) ?_
            refine AllReadyT.cons rfl (fun K hK => ?_) ?_
            · go_simp
              refine hK.out _ _ (fun _ => ?_) ?_
              · exact ⟨by go_simp, by go_simp⟩
              try simp only [Act.put, List.setIfInBounds_toArray, List.set_cons_zero, List.set_cons_succ]
              clear hK K
              refine wpAnyT_ready (rs := [9]) (by kernel_rfl) (by simp) ?_
              refine AllReadyT.cons rfl (fun K hK => ?_) ?_
              · refine step_app rfl (.tmp 59) (.tmp 61) 36 rfl elInt (B := B) (rows := v1.map encI) (A2 := some ⟨_, 0, none⟩) (news := [v].map encI) rfl ?_ rfl rfl ?_ (okI [v]) ?_ ?_ ?_ ?_
                · (repeat (first | exact HO2B.out | refine OwnS.drew ?_ | refine OwnS.alloc ?_ _))
                · first
                    | exact sl_of_blk (cs := #[.int .i64 v]) HX.out
                    | exact sl_of_blk (cs := #[.int .i64 v]) (Blk.drew HX.out)
                    | exact sl_of_blk (cs := #[.int .i64 v]) (Blk.drew (Blk.new _ _ _))
                    | exact sl_of_blk (cs := #[.int .i64 v]) (Blk.new _ _ _)
                · (simp only [maxLen]; omega)
                · omega
                · first | omega | (simp; try omega)
                intro A4 c4 wd ho4 hg4 ha4
                have hbd := Below.grown_base (w1 := wb) hg4 (by repeat (first | exact Below.refl _ _ | refine Below.drew ?_ | (refine Below.alloc ?_ ?_ _; rotate_left; (simp; try omega; done))))
                have HFR2 := hide hbd.1
                have HKK2 := hide hbd.2.1
                have hzz2 := hbd.2.2
                have hFA2 : blk A2 ≠ some F := fun e => by have := (HO2.out.lt F e).1; omega
                have q0 := (heap_cell (o := 0) (HFR2.out F (by omega) hFA2)).trans q0
                have q1 := (heap_cell (o := 1) (HFR2.out F (by omega) hFA2)).trans q1
                have hFD : Blk wd F 127 #[.slice A a1.length c, .slice A2 v1.length c2] := (HFR2.out F (by omega) hFA2).trans ((HFR.out F lF (fun e => by have := (HO1.out.lt F e).1; omega)).trans HC.out.fs.f)
                have f0 := hFD.frozen 0
                have f1 := hFD.frozen 1
                have lFD := hFD.lt
                have HFD := hide hFD
                have h23 : ∀ k, blk A2 = some k → blk A3 ≠ some k := fun k hk e => HC.out.fs.ap k (HA3.out k (HO2.out.lt k hk).2 e) hk
                have ho3d : OwnS wd B 3 1 A3 (n1 + 1) c3 (a1.map encI ++ [d].map encI) := by
                  refine OwnS.kept ?_ hg4 (ap_of h23)
                  (repeat (first | exact HO3.out | refine OwnS.drew ?_ | refine OwnS.alloc ?_ _))
                have HO3D := hide ho3d
                have HO4 := hide ho4
                have HA4 := hide (new_of (w1 := wb) ha4 (by first | omega | (simp; try omega)))
                have H23 := hide h23
                clear hbd hFD ho3d ho4 hg4 ha4 h23 hFA2
                refine hK.out _ _ (fun _ => ⟨q0, q1⟩) ?_
                try simp only [Act.put, List.setIfInBounds_toArray, List.set_cons_zero, List.set_cons_succ]
                clear hK K
                refine wpAnyT_ready (rs := [11]) (by kernel_rfl) (by simp) ?_
                refine AllReadyT.cons rfl (fun K hK => ?_) ?_
                · go_simp
                  refine hK.out _ _ (fun h => by cases h) ?_
                  try simp only [Act.put, List.setIfInBounds_toArray, List.set_cons_zero, List.set_cons_succ]
                  clear hK K
                  refine wpAnyT_take0 (i := 12) (v := ?_) rfl (by kernel_rfl) (by kernel_rfl) (by kernel_rfl) (by kernel_rfl) (fun _ _ _ h => h) (Or.inl ⟨by rfl, ?_⟩) ?_
                  rotate_left
                  · intro W hSW
                    go_simp
                    try with_reducible rfl
                  simp only [Act.put, List.setIfInBounds_toArray, List.set_cons_zero, List.set_cons_succ]
                  refine wpAnyT_ready (rs := [13]) (by kernel_rfl) (by simp) ?_
                  refine AllReadyT.cons rfl (fun K hK => ?_) ?_
                  · go_simp
                    refine hK.out _ _ (fun h => by cases h) ?_
                    try simp only [Act.put, List.setIfInBounds_toArray, List.set_cons_zero, List.set_cons_succ]
                    clear hK K
                    refine wpAnyT_done (by kernel_rfl) ?_ _
                    go_end0
                    rw [HA2.out]
                    have hg0 := HC.out.g
                    have hk1 := HC.out.k
                    have hk2 := HKK.out
                    have hk3 := HKK2.out
                    refine ⟨rfl, ⟨A3, A4, c3, c4, FS.fin HFD.out HO3D.out HO4.out (fun k h3 h4 => H23.out k (HA4.out k (HO3.out.lt k h3).2 h4) h3) hgt (by omega) HN1.out HL1.out, fun b hb => ⟨fun h => HA3.out b (by omega) h, fun h => HA4.out b (by omega) h⟩⟩, fun b hb h1 h2 h3 => ?_, by simp; omega, ⟨hk3.1.trans (hk2.1.trans hk1.1), hk3.2.1.trans (hk2.2.1.trans hk1.2.1), hk3.2.2.trans (hk2.2.2.trans hk1.2.2)⟩⟩
                    exact (heap_setCell_other _ ⟨F, 1, none⟩ b _ h1).trans ((heap_setCell_other _ ⟨F, 0, none⟩ b _ h1).trans ((HFR2.out b (by omega) h3).trans ((HFR.out b (by omega) h2).trans (HC.out.fr b h1))))
                  exact AllReadyT.nil
                exact AllReadyT.nil
              exact AllReadyT.nil
            exact AllReadyT.nil
          refine AllReadyT.cons rfl (fun K hK => ?_) ?_
          · go_simp
            refine hK.out _ _ (fun _ => ?_) ?_
            · exact ⟨by go_simp, by go_simp⟩
            try simp only [Act.put, List.setIfInBounds_toArray, List.set_cons_zero, List.set_cons_succ]
            clear hK K
            refine wpAnyT_ready (rs := [4]) (by kernel_rfl) (by simp) ?_
            refine AllReadyT.cons rfl (fun K hK => ?_) ?_
            · refine step_app rfl (.tmp 54) (.tmp 56) 36 rfl elInt (B := B) (rows := a1.map encI) (A2 := some ⟨_, 0, none⟩) (news := [d].map encI) rfl ?_ rfl rfl ?_ (okI [d]) ?_ ?_ ?_ ?_
              · (repeat (first | exact HO1.out | refine OwnS.drew ?_ | refine OwnS.alloc ?_ _))
              · first
                  | exact sl_of_blk (cs := #[.int .i64 d]) (Blk.drew (Blk.new _ _ _))
                  | exact sl_of_blk (cs := #[.int .i64 d]) (Blk.drew ((Blk.new _ _ _).alloc _))
                  | exact sl_of_blk (cs := #[.int .i64 d]) (Blk.drew (Blk.new' (by simp)))
              · (simp only [maxLen]; omega)
              · omega
              · first | omega | (simp; try omega)
              intro A3 c3 wb ho3 hg3 ha3
              have hne : ∀ k, blk A = some k → k < w1.heap.size := fun k hk => (HO1.out.lt k hk).2
              have hbw := Below.grown_base (w1 := w1) hg3 (by repeat (first | exact Below.refl _ _ | refine Below.drew ?_ | (refine Below.alloc ?_ ?_ _; rotate_left; (simp; try omega; done))))
              have HFR := hide hbw.1
              have HKK := hide hbw.2.1
              have hzz := hbw.2.2
              have lFb : F < wb.heap.size := by omega
              have q0 := (heap_cell (o := 0) (HFR.out F lF (fun e => by have := (HO1.out.lt F e).1; omega))).trans y0
              have q1 := (heap_cell (o := 1) (HFR.out F lF (fun e => by have := (HO1.out.lt F e).1; omega))).trans y1
              have ho2b : OwnS wb B 3 1 A2 n1 c2 (v1.map encI) := by
                refine OwnS.kept ?_ hg3 ?_
                · (repeat (first | exact HO2.out | refine OwnS.drew ?_ | refine OwnS.alloc ?_ _))
                · exact ap_of HC.out.fs.ap
              have HO2B := hide ho2b
              have HO3 := hide ho3
              have HA3 := hide (new_of (w1 := w1) ha3 (by first | omega | (simp; try omega)))
              have hx := gx4 hg3 hne
              have HX := hide hx
              clear hx
              clear hne hbw ho2b ho3 hg3 ha3
              refine hK.out _ _ (fun _ => ⟨q0, q1⟩) ?_
              try simp only [Act.put, List.setIfInBounds_toArray, List.set_cons_zero, List.set_cons_succ]
              clear hK K
              refine wpAnyT_take0 (i := 10) (v := ?_) rfl (by kernel_rfl) (by kernel_rfl) (by kernel_rfl) (by kernel_rfl) (fun _ _ _ h => h) (Or.inl ⟨by rfl, ?_⟩) ?_
              rotate_left
              · intro W hSW
                go_simp
                try with_reducible rfl
              simp only [Act.put, List.setIfInBounds_toArray, List.set_cons_zero, List.set_cons_succ]
              refine wpAnyT_ready (rs := [9]) (by kernel_rfl) (by simp) ?_
              refine AllReadyT.cons rfl (fun K hK => ?_) ?_
              · refine step_app rfl (.tmp 59) (.tmp 61) 36 rfl elInt (B := B) (rows := v1.map encI) (A2 := some ⟨_, 0, none⟩) (news := [v].map encI) rfl ?_ rfl rfl ?_ (okI [v]) ?_ ?_ ?_ ?_
                · (repeat (first | exact HO2B.out | refine OwnS.drew ?_ | refine OwnS.alloc ?_ _))
                · first
                    | exact sl_of_blk (cs := #[.int .i64 v]) HX.out
                    | exact sl_of_blk (cs := #[.int .i64 v]) (Blk.drew HX.out)
                    | exact sl_of_blk (cs := #[.int .i64 v]) (Blk.drew (Blk.new _ _ _))
                    | exact sl_of_blk (cs := #[.int .i64 v]) (Blk.new _ _ _)
                · (simp only [maxLen]; omega)
                · omega
                · first | omega | (simp; try omega)
                intro A4 c4 wd ho4 hg4 ha4
                have hbd := Below.grown_base (w1 := wb) hg4 (by repeat (first | exact Below.refl _ _ | refine Below.drew ?_ | (refine Below.alloc ?_ ?_ _; rotate_left; (simp; try omega; done))))
                have HFR2 := hide hbd.1
                have HKK2 := hide hbd.2.1
                have hzz2 := hbd.2.2
                have hFA2 : blk A2 ≠ some F := fun e => by have := (HO2.out.lt F e).1; omega
                have q0 := (heap_cell (o := 0) (HFR2.out F (by omega) hFA2)).trans q0
                have q1 := (heap_cell (o := 1) (HFR2.out F (by omega) hFA2)).trans q1
                have hFD : Blk wd F 127 #[.slice A a1.length c, .slice A2 v1.length c2] := (HFR2.out F (by omega) hFA2).trans ((HFR.out F lF (fun e => by have := (HO1.out.lt F e).1; omega)).trans HC.out.fs.f)
                have f0 := hFD.frozen 0
                have f1 := hFD.frozen 1
                have lFD := hFD.lt
                have HFD := hide hFD
                have h23 : ∀ k, blk A2 = some k → blk A3 ≠ some k := fun k hk e => HC.out.fs.ap k (HA3.out k (HO2.out.lt k hk).2 e) hk
                have ho3d : OwnS wd B 3 1 A3 (n1 + 1) c3 (a1.map encI ++ [d].map encI) := by
                  refine OwnS.kept ?_ hg4 (ap_of h23)
                  (repeat (first | exact HO3.out | refine OwnS.drew ?_ | refine OwnS.alloc ?_ _))
                have HO3D := hide ho3d
                have HO4 := hide ho4
                have HA4 := hide (new_of (w1 := wb) ha4 (by first | omega | (simp; try omega)))
                have H23 := hide h23
                clear hbd hFD ho3d ho4 hg4 ha4 h23 hFA2
                refine hK.out _ _ (fun _ => ⟨q0, q1⟩) ?_
                try simp only [Act.put, List.setIfInBounds_toArray, List.set_cons_zero, List.set_cons_succ]
                clear hK K
                refine wpAnyT_ready (rs := [11]) (by kernel_rfl) (by simp) ?_
                refine AllReadyT.cons rfl (fun K hK => ?_) ?_
                · go_simp
                  refine hK.out _ _ (fun h => by cases h) ?_
                  try simp only [Act.put, List.setIfInBounds_toArray, List.set_cons_zero, List.set_cons_succ]
                  clear hK K
                  refine wpAnyT_take0 (i := 12) (v := ?_) rfl (by kernel_rfl) (by kernel_rfl) (by kernel_rfl) (by kernel_rfl) (fun _ _ _ h => h) (Or.inl ⟨by rfl, ?_⟩) ?_
                  rotate_left
                  · intro W hSW
                    go_simp
                    try with_reducible rfl
                  simp only [Act.put, List.setIfInBounds_toArray, List.set_cons_zero, List.set_cons_succ]
                  refine wpAnyT_ready (rs := [13]) (by kernel_rfl) (by simp) ?_
                  refine AllReadyT.cons rfl (fun K hK => ?_) ?_
                  · go_simp
                    refine hK.out _ _ (fun h => by cases h) ?_
                    try simp only [Act.put, List.setIfInBounds_toArray, List.set_cons_zero, List.set_cons_succ]
                    clear hK K
                    refine wpAnyT_done (by kernel_rfl) ?_ _
                    go_end0
                    rw [HA2.out]
                    have hg0 := HC.out.g
                    have hk1 := HC.out.k
                    have hk2 := HKK.out
                    have hk3 := HKK2.out
                    refine ⟨rfl, ⟨A3, A4, c3, c4, FS.fin HFD.out HO3D.out HO4.out (fun k h3 h4 => H23.out k (HA4.out k (HO3.out.lt k h3).2 h4) h3) hgt (by omega) HN1.out HL1.out, fun b hb => ⟨fun h => HA3.out b (by omega) h, fun h => HA4.out b (by omega) h⟩⟩, fun b hb h1 h2 h3 => ?_, by simp; omega, ⟨hk3.1.trans (hk2.1.trans hk1.1), hk3.2.1.trans (hk2.2.1.trans hk1.2.1), hk3.2.2.trans (hk2.2.2.trans hk1.2.2)⟩⟩
                    exact (heap_setCell_other _ ⟨F, 1, none⟩ b _ h1).trans ((heap_setCell_other _ ⟨F, 0, none⟩ b _ h1).trans ((HFR2.out b (by omega) h3).trans ((HFR.out b (by omega) h2).trans (HC.out.fr b h1))))
                  exact AllReadyT.nil
                exact AllReadyT.nil
              exact AllReadyT.nil
            exact AllReadyT.nil
          exact AllReadyT.nil
        refine AllReadyT.cons rfl (fun K hK => ?_) ?_
        · go_simp
          refine hK.out _ _ (fun _ => ?_) ?_
          · exact ⟨by go_simp, by go_simp⟩
          try simp only [Act.put, List.setIfInBounds_toArray, List.set_cons_zero, List.set_cons_succ]
          clear hK K
          refine wpAnyT_ready (rs := [3]) (by kernel_rfl) (by simp) ?_
          refine AllReadyT.cons rfl (fun K hK => ?_) ?_
          · go_simp
            refine hK.out _ _ (fun _ => ?_) ?_
            · exact ⟨by go_simp, by go_simp⟩
            try simp only [Act.put, List.setIfInBounds_toArray, List.set_cons_zero, List.set_cons_succ]
            clear hK K
            refine wpAnyT_ready (rs := [4]) (by kernel_rfl) (by simp) ?_
            refine AllReadyT.cons rfl (fun K hK => ?_) ?_
            · refine step_app rfl (.tmp 54) (.tmp 56) 36 rfl elInt (B := B) (rows := a1.map encI) (A2 := some ⟨_, 0, none⟩) (news := [d].map encI) rfl ?_ rfl rfl ?_ (okI [d]) ?_ ?_ ?_ ?_
              · (repeat (first | exact HO1.out | refine OwnS.drew ?_ | refine OwnS.alloc ?_ _))
              · first
                  | exact sl_of_blk (cs := #[.int .i64 d]) (Blk.drew (Blk.new _ _ _))
                  | exact sl_of_blk (cs := #[.int .i64 d]) (Blk.drew ((Blk.new _ _ _).alloc _))
                  | exact sl_of_blk (cs := #[.int .i64 d]) (Blk.drew (Blk.new' (by simp)))
              · (simp only [maxLen]; omega)
              · omega
              · first | omega | (simp; try omega)
              intro A3 c3 wb ho3 hg3 ha3
              have hne : ∀ k, blk A = some k → k < w1.heap.size := fun k hk => (HO1.out.lt k hk).2
              have hbw := Below.grown_base (w1 := w1) hg3 (by repeat (first | exact Below.refl _ _ | refine Below.drew ?_ | (refine Below.alloc ?_ ?_ _; rotate_left; (simp; try omega; done))))
              have HFR := hide hbw.1
              have HKK := hide hbw.2.1
              have hzz := hbw.2.2
              have lFb : F < wb.heap.size := by omega
              have q0 := (heap_cell (o := 0) (HFR.out F lF (fun e => by have := (HO1.out.lt F e).1; omega))).trans y0
              have q1 := (heap_cell (o := 1) (HFR.out F lF (fun e => by have := (HO1.out.lt F e).1; omega))).trans y1
              have ho2b : OwnS wb B 3 1 A2 n1 c2 (v1.map encI) := by
                refine OwnS.kept ?_ hg3 ?_
                · (repeat (first | exact HO2.out | refine OwnS.drew ?_ | refine OwnS.alloc ?_ _))
                · exact ap_of HC.out.fs.ap
              have HO2B := hide ho2b
              have HO3 := hide ho3
              have HA3 := hide (new_of (w1 := w1) ha3 (by first | omega | (simp; try omega)))
              have hx := gx5 hg3 hne
              have HX := hide hx
              clear hx
              clear hne hbw ho2b ho3 hg3 ha3
              refine hK.out _ _ (fun _ => ⟨q0, q1⟩) ?_
              try simp only [Act.put, List.setIfInBounds_toArray, List.set_cons_zero, List.set_cons_succ]
              clear hK K
              refine wpAnyT_take0 (i := 10) (v := ?_) rfl (by kernel_rfl) (by kernel_rfl) (by kernel_rfl) (by kernel_rfl) (fun _ _ _ h => h) (Or.inl ⟨by rfl, ?_⟩) ?_
              rotate_left
              · intro W hSW
                go_simp
                try with_reducible rfl
              simp only [Act.put, List.setIfInBounds_toArray, List.set_cons_zero, List.set_cons_succ]
              refine wpAnyT_ready (rs := [9]) (by kernel_rfl) (by simp) ?_
              refine AllReadyT.cons rfl (fun K hK => ?_) ?_
              · refine step_app rfl (.tmp 59) (.tmp 61) 36 rfl elInt (B := B) (rows := v1.map encI) (A2 := some ⟨_, 0, none⟩) (news := [v].map encI) rfl ?_ rfl rfl ?_ (okI [v]) ?_ ?_ ?_ ?_
                · (repeat (first | exact HO2B.out | refine OwnS.drew ?_ | refine OwnS.alloc ?_ _))
                · first
                    | exact sl_of_blk (cs := #[.int .i64 v]) HX.out
                    | exact sl_of_blk (cs := #[.int .i64 v]) (Blk.drew HX.out)
                    | exact sl_of_blk (cs := #[.int .i64 v]) (Blk.drew (Blk.new _ _ _))
                    | exact sl_of_blk (cs := #[.int .i64 v]) (Blk.new _ _ _)
                · (simp only [maxLen]; omega)
                · omega
                · first | omega | (simp; try omega)
                intro A4 c4 wd ho4 hg4 ha4
                have hbd := Below.grown_base (w1 := wb) hg4 (by repeat (first | exact Below.refl _ _ | refine Below.drew ?_ | (refine Below.alloc ?_ ?_ _; rotate_left; (simp; try omega; done))))
                have HFR2 := hide hbd.1
                have HKK2 := hide hbd.2.1
                have hzz2 := hbd.2.2
                have hFA2 : blk A2 ≠ some F := fun e => by have := (HO2.out.lt F e).1; omega
                have q0 := (heap_cell (o := 0) (HFR2.out F (by omega) hFA2)).trans q0
                have q1 := (heap_cell (o := 1) (HFR2.out F (by omega) hFA2)).trans q1
                have hFD : Blk wd F 127 #[.slice A a1.length c, .slice A2 v1.length c2] := (HFR2.out F (by omega) hFA2).trans ((HFR.out F lF (fun e => by have := (HO1.out.lt F e).1; omega)).trans HC.out.fs.f)
                have f0 := hFD.frozen 0
                have f1 := hFD.frozen 1
                have lFD := hFD.lt
                have HFD := hide hFD
                have h23 : ∀ k, blk A2 = some k → blk A3 ≠ some k := fun k hk e => HC.out.fs.ap k (HA3.out k (HO2.out.lt k hk).2 e) hk
                have ho3d : OwnS wd B 3 1 A3 (n1 + 1) c3 (a1.map encI ++ [d].map encI) := by
                  refine OwnS.kept ?_ hg4 (ap_of h23)
                  (repeat (first | exact HO3.out | refine OwnS.drew ?_ | refine OwnS.alloc ?_ _))
                have HO3D := hide ho3d
                have HO4 := hide ho4
                have HA4 := hide (new_of (w1 := wb) ha4 (by first | omega | (simp; try omega)))
                have H23 := hide h23
                clear hbd hFD ho3d ho4 hg4 ha4 h23 hFA2
                refine hK.out _ _ (fun _ => ⟨q0, q1⟩) ?_
                try simp only [Act.put, List.setIfInBounds_toArray, List.set_cons_zero, List.set_cons_succ]
                clear hK K
                refine wpAnyT_ready (rs := [11]) (by kernel_rfl) (by simp) ?_
                refine AllReadyT.cons rfl (fun K hK => ?_) ?_
                · go_simp
                  refine hK.out _ _ (fun h => by cases h) ?_
                  try simp only [Act.put, List.setIfInBounds_toArray, List.set_cons_zero, List.set_cons_succ]
                  clear hK K
                  refine wpAnyT_take0 (i := 12) (v := ?_) rfl (by kernel_rfl) (by kernel_rfl) (by kernel_rfl) (by kernel_rfl) (fun _ _ _ h => h) (Or.inl ⟨by rfl, ?_⟩) ?_
                  rotate_left
                  · intro W hSW
                    go_simp
                    try with_reducible rfl
                  simp only [Act.put, List.setIfInBounds_toArray, List.set_cons_zero, List.set_cons_succ]
                  refine wpAnyT_ready (rs := [13]) (by kernel_rfl) (by simp) ?_
                  refine AllReadyT.cons rfl (fun K hK => ?_) ?_
                  · go_simp
                    refine hK.out _ _ (fun h => by cases h) ?_
                    try simp only [Act.put, List.setIfInBounds_toArray, List.set_cons_zero, List.set_cons_succ]
                    clear hK K
                    refine wpAnyT_done (by kernel_rfl) ?_ _
                    go_end0
                    rw [HA2.out]
                    have hg0 := HC.out.g
                    have hk1 := HC.out.k
                    have hk2 := HKK.out
                    have hk3 := HKK2.out
                    refine ⟨rfl, ⟨A3, A4, c3, c4, FS.fin HFD.out HO3D.out HO4.out (fun k h3 h4 => H23.out k (HA4.out k (HO3.out.lt k h3).2 h4) h3) hgt (by omega) HN1.out HL1.out, fun b hb => ⟨fun h => HA3.out b (by omega) h, fun h => HA4.out b (by omega) h⟩⟩, fun b hb h1 h2 h3 => ?_, by simp; omega, ⟨hk3.1.trans (hk2.1.trans hk1.1), hk3.2.1.trans (hk2.2.1.trans hk1.2.1), hk3.2.2.trans (hk2.2.2.trans hk1.2.2)⟩⟩
                    exact (heap_setCell_other _ ⟨F, 1, none⟩ b _ h1).trans ((heap_setCell_other _ ⟨F, 0, none⟩ b _ h1).trans ((HFR2.out b (by omega) h3).trans ((HFR.out b (by omega) h2).trans (HC.out.fr b h1))))
                  exact AllReadyT.nil
                exact AllReadyT.nil
              exact AllReadyT.nil
            exact AllReadyT.nil
          exact AllReadyT.nil
        exact AllReadyT.nil
end Go.Proofs.YtmfohnchnbgbaaaGreatDoor

/- What is earned: the curve of slices. -/
namespace Go.Proofs.YtmfohnchnbgbaaaGreatDoor
open Go.RowKit

def fullA (f t y e : Int) : Bool := decide (e ≤ f ∧ f < t ∧ t ≤ 292195 ∧ 0 ≤ y ∧ y ≤ 4000000000000000000)
theorem fullA_any (x : Sc) (e : Int) (w : World) :
    Calls Tryz.prog 82 #[.agg #[.int .i64 x.f, .int .i64 x.t, .bool x.on, .int .i64 x.rk, .int .i64 x.rv, .int .i64 x.ra, .int .i64 x.rz, .slice x.A x.l.length x.cap, .int .i64 x.y], .int .i64 e] w fun en w' => en = .returned (.bool (fullA x.f x.t x.y e)) ∧ Below w.heap.size w w' := by
  by_cases h1 : e ≤ x.f
  · by_cases h2 : x.f < x.t
    · by_cases h3 : x.t ≤ 292195
      · go_enter Tryz.func82, Tryz.ntmps82
        go_wp2
        all_goals
          go_ret
          exact ⟨ret_bool (by rw [Bool.eq_iff_iff]; simp [fullA]; omega), (Below.refl _ _).alloc (Nat.le_refl _) _⟩
      · have hF : fullA x.f x.t x.y e = false := by simp [fullA]; omega
        rw [hF]
        clear hF
        go_enter Tryz.func82, Tryz.ntmps82
        go_wp2
        go_ret
        exact ⟨rfl, (Below.refl _ _).alloc (Nat.le_refl _) _⟩
    · have hF : fullA x.f x.t x.y e = false := by simp [fullA]; omega
      rw [hF]
      clear hF
      go_enter Tryz.func82, Tryz.ntmps82
      go_wp2
      go_ret
      exact ⟨rfl, (Below.refl _ _).alloc (Nat.le_refl _) _⟩
  · have hF : fullA x.f x.t x.y e = false := by simp [fullA]; omega
    rw [hF]
    clear hF
    go_enter Tryz.func82, Tryz.ntmps82
    go_wp2
    go_ret
    exact ⟨rfl, (Below.refl _ _).alloc (Nat.le_refl _) _⟩
theorem must_ok (w : World) : Calls Tryz.prog 79 #[.int .i64 0] w fun e w' => e = .returned (.tuple #[]) ∧ w' = w := by
  go_enter Tryz.func79, Tryz.ntmps79
  go_wp2
  go_end0
  exact ⟨rfl, rfl⟩
theorem must_no (k : Int) (hk : k ≠ 0) (w : World) : Calls Tryz.prog 79 #[.int .i64 k] w fun e w' => e = .panicked [{ v := .iface 27 (.int .i64 k), recovered := false }] ∧ w' = w := by
  have hq : (k != 0) = true := by simpa using hk
  clear hk
  go_enter Tryz.func79, Tryz.ntmps79
  go_wp2
  exact ⟨rfl, rfl, rfl⟩
set_option maxRecDepth 100000 in
theorem told_no (p : Addr) (x k : Int) (older : List PanicEntry) (w : World) (hc : w.cell? p = some (.int .i64 x)) (hz : w.frozen? p = false) :
    CallsD Tryz.prog 41 #[.pointer (some p)] (.panicking ({ v := .iface 27 (.int .i64 k), recovered := false } :: older)) w fun e u' w' =>
      e = .returned (.tuple #[]) ∧ u' = .panicking ({ v := .iface 27 (.int .i64 k), recovered := true } :: older) ∧ w' = w.setCell p (.int .i64 k) := by
  refine callsD_of_wpS Tryz.func41 rfl fun c₀ cs hu => ?_
  apply wpS_seq
  apply wpS_region
  simp [wpOpsS, go_sem, recoverD, hu, Tryz.ntmps41, Exit.thenS]
  apply wpS_seq
  apply wpS_region
  simp [wpOpsS, go_sem, Exit.thenS]
  refine wpS_cond (t := true) (by simp [Act.eval, Array.replicate]) ?_
  simp only [if_true]
  rw [show (#[Value.pointer (some p)] ++ ((((Array.replicate 12 undef).setIfInBounds 2 (Value.iface 27 (Value.int IntKind.i64 k))).setIfInBounds 1 (Value.iface 27 (Value.int IntKind.i64 k))).setIfInBounds 3 (Value.iface 27 (Value.int IntKind.i64 k))).setIfInBounds 4 (Value.bool true)) =
    #[Value.pointer (some p), undef, .iface 27 (.int .i64 k), .iface 27 (.int .i64 k), .iface 27 (.int .i64 k), .bool true, undef, undef, undef, undef, undef, undef, undef] from by simp [Array.replicate]]
  refine wpS_of_wp (Code.wp_mono (Q := fun e a' w' => e = .normal ∧ a'.defers = [] ∧ w' = w.setCell p (.int .i64 k)) ?_ ?_)
  · rintro e a' w' ⟨rfl, hd, rfl⟩
    exact ⟨hd, _, rfl, _, by simp [results, Tryz.results41], rfl, rfl, rfl⟩
  clear hu
  have hta : ∀ w : World, (Instr.typeAssert (Value.iface 27 (Value.int IntKind.i64 k)) 20 27 true).run Tryz.prog w = .ok (.tuple #[.int .i64 k, .bool true]) w := fun w => by first | rfl | (simp [go_sem]; done) | kernel_rfl
  go_wp2
theorem told_ok (p : Addr) (w : World) :
    CallsD Tryz.prog 41 #[.pointer (some p)] .returning w fun e u' w' => e = .returned (.tuple #[]) ∧ u' = .returning ∧ w' = w := by
  refine callsD_of_wpS Tryz.func41 rfl fun c₀ cs hu => ?_
  apply wpS_seq
  apply wpS_region
  simp [wpOpsS, go_sem, recoverD, hu, Tryz.ntmps41, Exit.thenS]
  apply wpS_seq
  apply wpS_region
  simp [wpOpsS, go_sem, Exit.thenS]
  refine wpS_cond (t := false) (by simp [Act.eval, Array.replicate]) ?_
  simp only [Bool.false_eq_true, if_false]
  refine wpS_of_wp (wp_skip ?_)
  cases c₀
  simp_all [bodyPostS, results, Tryz.results41]
end Go.Proofs.YtmfohnchnbgbaaaGreatDoor

/- What is earned: the curve of the slices. -/
namespace Go.Proofs.YtmfohnchnbgbaaaGreatDoor
open Go.RowKit

def AddcAny : Prop := ∀ (B F : Nat) (A A2 : Option Addr) (c c2 : Nat) (s : List Int × List Int) (d v : Int) (w : World), FS w B F A A2 c c2 s → s.1.length ≤ 100000 →
    Calls Tryz.prog 81 #[.int .i64 d, .int .i64 v, .pointer (some ⟨F, 0, none⟩)] w (AdcP w B F A A2 (addV d v s))
theorem addc_all : AddcAny := fun B F A A2 c c2 s d v w h hl => addc_any B F A A2 c c2 s d v w h hl
def chainS : Int → List Sc → Bool
  | _, [] => true
  | e, x :: r => fullA x.f x.t x.y e && chainS x.t r
def stF (s : List Int × List Int) (x : Sc) : List Int × List Int := addV x.t 0 (addV x.f x.y s)
def curF (l : List Sc) : List Int × List Int := l.foldl stF ([], [])
def curK (l : List Sc) : Int := if 2000 < l.length then 1 else if chainS 1 l = true then 0 else 1
theorem curF_take {l : List Sc} {k : Nat} {c : Sc} (h : l[k]? = some c) : curF (l.take (k + 1)) = stF (curF (l.take k)) c := by rw [take_of h, curF, curF, List.foldl_append]; rfl
theorem chainS_drop {l : List Sc} {k : Nat} {c : Sc} {e : Int} (h : l[k]? = some c) : chainS e (l.drop k) = (fullA c.f c.t c.y e && chainS c.t (l.drop (k + 1))) := by
  obtain ⟨hk, hc⟩ := List.getElem?_eq_some_iff.1 h
  rw [List.drop_eq_getElem_cons hk, hc]; rfl
theorem addV_len (d v : Int) (s : List Int × List Int) : (addV d v s).1.length ≤ s.1.length + 1 := by
  unfold addV pushV popV
  split <;> split <;> simp <;> omega
theorem curF_len : ∀ (l : List Sc), (curF l).1.length ≤ 2 * l.length := by
  intro l
  rcases nil_or_snoc l with rfl | ⟨r, x, rfl⟩
  · simp [curF]
  · have h1 := curF_len r
    have h2 := addV_len x.f x.y (curF r)
    have h3 := addV_len x.t 0 (addV x.f x.y (curF r))
    have : curF (r ++ [x]) = stF (curF r) x := by rw [curF, curF, List.foldl_append]; rfl
    rw [this, stF]
    simp only [List.length_append, List.length_singleton]
    omega
termination_by l => l.length
decreasing_by simp_all
def pan (k : Int) : Ending := .panicked [{ v := .iface 27 (.int .i64 k), recovered := false }]
def CurP (l : List Sc) (w : World) (e : Ending) (w' : World) : Prop :=
  Below w.heap.size w w' ∧ (curK l = 1 ∧ e = pan 1 ∨ curK l = 0 ∧ ∃ (A1 A2 : Option Addr) (c1 c2 : Nat), e = .returned (.agg #[.slice A1 (curF l).1.length c1, .slice A2 (curF l).2.length c2]) ∧
    SV w' 1 A1 (curF l).1.length c1 ((curF l).1.map encI) ∧ SV w' 1 A2 (curF l).2.length c2 ((curF l).2.map encI))
theorem FS.below {w w' : World} {B F : Nat} {A A2 : Option Addr} {c c2 : Nat} {s : List Int × List Int} (h : FS w B F A A2 c c2 s) (hb : Below w.heap.size w w') : FS w' B F A A2 c c2 s :=
  ⟨h.f.below hb h.f.lt, h.o1.below hb, h.o2.below hb, h.ap, h.gt, Nat.le_trans h.sz hb.size, h.ln⟩
theorem below_of {w w' : World} {B : Nat} (hk : w'.os = w.os ∧ w'.tape = w.tape ∧ w'.output = w.output) (hg : w.heap.size ≤ w'.heap.size) (h : ∀ b, b < B → w'.heap[b]? = w.heap[b]?) : Below B w w' := ⟨hk.1, hk.2.1, hk.2.2, hg, h⟩
set_option maxRecDepth 100000 in
set_option maxHeartbeats 4000000 in
theorem curve_any (HADD : AddcAny) (A : Option Addr) (cap n : Nat) (l : List Sc) (w : World) (hs : SV w 9 A n cap (l.map encSc)) :
    Calls Tryz.prog 43 #[.slice A n cap] w (CurP l w) := by
  have hmf : ∀ (fn : Fn) (first cap : Array Value) (w : World), (Instr.makeFunc fn first cap).run Tryz.prog w = .ok (.func fn first cap) w := fun _ _ _ _ => rfl
  have hn : l.length = n := by have := hs.len; simpa using this
  have HN := hide hn
  have HS := hide hs
  have HMU := hide (must_no 1 (by decide))
  have HAD := hide HADD
  obtain ⟨C, hC⟩ : ∃ C, chainS 1 l = C := ⟨_, rfl⟩
  have HC := hide hC
  clear hC HADD
  by_cases hm : 2000 < n
  · have HK := hide (show curK l = 1 by rw [curK, HN.out, if_pos hm])
    have hm1 : (2000 : Int) < (n : Int) := by omega
    clear hm hn hs
    go_enter Tryz.func43, Tryz.ntmps43
    go_wp2_with fail
    refine (HMU.out _).mono ?_
    rintro e w' ⟨rfl, rfl⟩
    go_wp2_with fail
    exact ⟨rfl, (Below.refl _ _).alloc (Nat.le_refl _) _, .inl ⟨HK.out, rfl⟩⟩
  have hm1 : (n : Int) ≤ 2000 := by omega
  have hm2 : n ≤ 2000 := by omega
  obtain ⟨w1, hw1⟩ : ∃ W, (w.alloc (.cells #[.slice none 0 0, .slice none 0 0] 127)).alloc (.cells #[.slice none 0 0, .slice none 0 0] 127) = W := ⟨_, rfl⟩
  have hb1 : Below w.heap.size w w1 := by rw [← hw1]; exact ((Below.refl _ _).alloc (Nat.le_refl _) _).alloc (by simp) _
  have hr1 : Blk w1 w.heap.size 127 #[.slice none 0 0, .slice none 0 0] := by rw [← hw1]; exact (Blk.new _ _ _).alloc _
  have hf1 : Blk w1 (w.heap.size + 1) 127 #[.slice none 0 0, .slice none 0 0] := by rw [← hw1]; exact Blk.new' (by simp)
  have hz1 : w1.heap.size = w.heap.size + 2 := by rw [← hw1]; simp
  have HFS := hide (show FS w1 (w.heap.size + 2) (w.heap.size + 1) none none 0 0 (curF (l.take 0)) from
    ⟨by simpa [curF] using hf1, by simpa [curF] using OwnS.nil_ _ _ _ _, by simpa [curF] using OwnS.nil_ _ _ _ _, fun k h => by simp [blk] at h, by omega, by omega, rfl⟩)
  have H1 := hide hb1
  have HR1 := hide hr1
  have HW1 := hide hw1
  clear hb1 hr1 hf1 hw1 hs hn hm
  go_enter Tryz.func43, Tryz.ntmps43
  go_upto_region 4 with fail
  rw [show (w.alloc (.cells #[.slice none 0 0, .slice none 0 0] 127)).alloc (.cells #[.slice none 0 0, .slice none 0 0] 127) = w1 from HW1.out]
  clear HW1
  go_wp2_with fail
  go_loopw [5, 15] (fun e5 q wr => ∃ (i : Nat) (e : Int) (A1 A2 : Option Addr) (c1 c2 : Nat), i ≤ n ∧ q = .int .i64 i ∧ e5 = .int .i64 e ∧ FS wr (w.heap.size + 2) (w.heap.size + 1) A1 A2 c1 c2 (curF (l.take i)) ∧ chainS e (l.drop i) = C ∧ Below w.heap.size w wr ∧ Blk wr w.heap.size 127 #[.slice none 0 0, .slice none 0 0]) (fun _ q _ => n - (RowKit.intOf q).toNat)
  case atStart => exact ⟨0, 1, none, none, 0, 0, Nat.zero_le _, rfl, rfl, HFS.out, HC.out, H1.out, HR1.out⟩
  case round =>
    obtain ⟨i, ed, A1, A2, c1, c2, hi, rfl, rfl, hfs, hch, hb, hrr⟩ := hrel
    have HFS2 := hide hfs
    have HCH := hide hch
    have HB := hide hb
    have HRR := hide hrr
    have hsz := hfs.sz
    clear hfs hch hb hrr
    by_cases hlt : i < n
    · obtain ⟨s, hs⟩ := get_of (l := l) (k := i) (by rw [HN.out]; exact hlt)
      obtain ⟨g, off, hA, hbl, x0, x1, x2, x3, x4, x5, x6, x7, x8⟩ := (HS.out.below HB.out).sl.sc hs
      subst hA
      have HTK := hide (curF_take hs)
      have HDR := hide (chainS_drop (e := ed) hs)
      have HLE := hide (curF_len (l.take i))
      have hk0 : (0 : Int) ≤ (i : Int) := by omega
      have hk1 : (i : Int) < (n : Int) := by omega
      clear hs
      obtain ⟨w6, hw6⟩ : ∃ W, wr.alloc (.cells (scC s) 121) = W := ⟨_, rfl⟩
      have hb6 : Below wr.heap.size wr w6 := by rw [← hw6]; exact (Below.refl _ _).alloc (Nat.le_refl _) _
      have hS6 : Blk w6 wr.heap.size 121 (scC s) := by rw [← hw6]; exact Blk.new _ _ _
      have HW6 := hide hw6
      have HB6 := hide hb6
      have HS6 := hide hS6
      have hX := hS6.lt
      clear hw6 hb6 hS6
      go_upto_region 9 with fail
      rw [show wr.alloc (.cells #[.int .i64 s.f, .int .i64 s.t, .bool s.on, .int .i64 s.rk, .int .i64 s.rv, .int .i64 s.ra, .int .i64 s.rz, .slice s.A s.l.length s.cap, .int .i64 s.y] 121) = w6 from HW6.out]
      have HXA := hide (show blk A1 ≠ some wr.heap.size ∧ blk A2 ≠ some wr.heap.size ∧ w.heap.size + 2 ≤ wr.heap.size from ⟨fun e => by have := (HFS2.out.o1.lt _ e).2; omega, fun e => by have := (HFS2.out.o2.lt _ e).2; omega, hsz⟩)
      have HB62 := hide (chain HB.out HB6.out)
      have HF6 := hide (HFS2.out.below HB6.out)
      have HR6 := hide (HRR.out.below HB6.out (by omega))
      obtain ⟨X, hXX⟩ : ∃ X, wr.heap.size = X := ⟨_, rfl⟩
      rw [hXX] at HS6 HXA hX ⊢
      have k0 : w6.cell? ⟨X, 0, none⟩ = some (.int .i64 s.f) := HS6.out.cell 0
      have k1 : w6.cell? ⟨X, 1, none⟩ = some (.int .i64 s.t) := HS6.out.cell 1
      have k2 : w6.cell? ⟨X, 2, none⟩ = some (.bool s.on) := HS6.out.cell 2
      have k3 : w6.cell? ⟨X, 3, none⟩ = some (.int .i64 s.rk) := HS6.out.cell 3
      have k4 : w6.cell? ⟨X, 4, none⟩ = some (.int .i64 s.rv) := HS6.out.cell 4
      have k5 : w6.cell? ⟨X, 5, none⟩ = some (.int .i64 s.ra) := HS6.out.cell 5
      have k6 : w6.cell? ⟨X, 6, none⟩ = some (.int .i64 s.rz) := HS6.out.cell 6
      have k7 : w6.cell? ⟨X, 7, none⟩ = some (.slice s.A s.l.length s.cap) := HS6.out.cell 7
      have k8 : w6.cell? ⟨X, 8, none⟩ = some (.int .i64 s.y) := HS6.out.cell 8
      obtain ⟨fl, hfl⟩ : ∃ b, fullA s.f s.t s.y ed = b := ⟨_, rfl⟩
      have HFU := hide (fullA_any s ed w6)
      rw [hfl] at HFU HDR
      clear hXX HW6 HB6 x0 x1 x2 x3 x4 x5 x6 x7 x8 hsz hfl
      go_wp2_with fail
      refine HFU.out.mono ?_
      rintro e w7 ⟨rfl, h7⟩
      have HF7 := hide (HF6.out.below h7)
      have HB7 := hide (chain HB62.out h7)
      have HR7 := hide (HR6.out.below h7 (by have := HXA.out; omega))
      have HS7 := hide (HS6.out.below h7 hX)
      have hX7 := HS7.out.lt
      clear HF6 HB62 HR6 HS6 k0 k1 k2 k3 k4 k5 k6 k7 k8 h7
      cases fl
      · have HK := hide (show curK l = 1 by
          rw [curK, HN.out, if_neg (by omega), HC.out, ← HCH.out, HDR.out]; rfl)
        go_wp2_with fail
        refine (HMU.out _).mono ?_
        rintro e w' ⟨rfl, rfl⟩
        go_wp2_with fail
        exact ⟨rfl, HB7.out, .inl ⟨HK.out, rfl⟩⟩
      · have k0 : w7.cell? ⟨X, 0, none⟩ = some (.int .i64 s.f) := HS7.out.cell 0
        have k1 : w7.cell? ⟨X, 1, none⟩ = some (.int .i64 s.t) := HS7.out.cell 1
        have k8 : w7.cell? ⟨X, 8, none⟩ = some (.int .i64 s.y) := HS7.out.cell 8
        have HA1 := hide (HAD.out _ _ _ _ _ _ _ s.f s.y _ HF7.out (by have h1 := HLE.out; rw [List.length_take] at h1; omega))
        go_wp2_with fail
        refine HA1.out.mono ?_
        intro e w8 hp
        obtain ⟨he, ⟨A3, A4, c3, c4, hf8, hx8⟩, hfr8, hg8, hk8⟩ := hp
        subst he
        have hX8 : X < w8.heap.size := by omega
        have HF8 := hide hf8
        have HB8 := hide (HB7.out.trans (below_of (B := w.heap.size) (w := w7) hk8 hg8 (fun b hb => hfr8 b (by have := HB7.out.size; omega) (by omega) (fun e => by have := (HF7.out.o1.lt _ e).1; omega) (fun e => by have := (HF7.out.o2.lt _ e).1; omega))))
        have HR8 := hide (show Blk w8 w.heap.size 127 #[.slice none 0 0, .slice none 0 0] from (hfr8 w.heap.size (by have := HXA.out; omega) (by omega) (fun e => by have := (HF7.out.o1.lt _ e).1; omega) (fun e => by have := (HF7.out.o2.lt _ e).1; omega)).trans HR7.out)
        have HS8 := hide (show Blk w8 X 121 (scC s) from (hfr8 X hX7 (by have := HXA.out; omega) HXA.out.1 HXA.out.2.1).trans HS7.out)
        have HX8 := hide (show blk A3 ≠ some X ∧ blk A4 ≠ some X from ⟨fun e => HXA.out.1 ((hx8 X hX7).1 e), fun e => HXA.out.2.1 ((hx8 X hX7).2 e)⟩)
        have HL8 := hide (addV_len s.f s.y (curF (l.take i)))
        clear hf8 hx8 hfr8 hg8 hk8 k0 k1 k8 HF7 HB7 HR7 HS7 HA1
        have k0 : w8.cell? ⟨X, 0, none⟩ = some (.int .i64 s.f) := HS8.out.cell 0
        have k1 : w8.cell? ⟨X, 1, none⟩ = some (.int .i64 s.t) := HS8.out.cell 1
        have HA2 := hide (HAD.out _ _ _ _ _ _ _ s.t 0 _ HF8.out (by have h1 := HLE.out; have h2 := HL8.out; rw [List.length_take] at h1; omega))
        go_wp2_with fail
        refine HA2.out.mono ?_
        intro e w9 hp
        obtain ⟨he, ⟨A5, A6, c5, c6, hf9, hx9⟩, hfr9, hg9, hk9⟩ := hp
        subst he
        have hX9 : X < w9.heap.size := by omega
        have HF9 := hide hf9
        have HB9 := hide (HB8.out.trans (below_of (B := w.heap.size) (w := w8) hk9 hg9 (fun b hb => hfr9 b (by have := HB8.out.size; omega) (by omega) (fun e => by have := (HF8.out.o1.lt _ e).1; omega) (fun e => by have := (HF8.out.o2.lt _ e).1; omega))))
        have HR9 := hide (show Blk w9 w.heap.size 127 #[.slice none 0 0, .slice none 0 0] from (hfr9 w.heap.size (by have := HXA.out; omega) (by omega) (fun e => by have := (HF8.out.o1.lt _ e).1; omega) (fun e => by have := (HF8.out.o2.lt _ e).1; omega)).trans HR8.out)
        have HS9 := hide (show Blk w9 X 121 (scC s) from (hfr9 X hX8 (by have := HXA.out; omega) HX8.out.1 HX8.out.2).trans HS8.out)
        clear hf9 hx9 hfr9 hg9 hk9 k0 k1 HF8 HB8 HR8 HS8 HA2
        have k1 : w9.cell? ⟨X, 1, none⟩ = some (.int .i64 s.t) := HS9.out.cell 1
        go_wp2_with fail
        go_roundw
        case rel => exact ⟨i + 1, s.t, A5, A6, c5, c6, by omega, by go_num, rfl, by rw [HTK.out]; exact HF9.out, by rw [← HCH.out, HDR.out]; rfl, HB9.out, HR9.out⟩
        case measure => simp [RowKit.intOf]; omega
    · obtain rfl : i = n := by omega
      have htk : l.take i = l := List.take_of_length_le (by rw [HN.out]; exact Nat.le_refl _)
      have HK := hide (show curK l = 0 by
        have := HCH.out
        rw [List.drop_eq_nil_of_le (by rw [HN.out]; exact Nat.le_refl _)] at this
        rw [curK, HN.out, if_neg (by omega), HC.out, ← this]; rfl)
      have hfs := HFS2.out
      rw [htk] at hfs
      have HF := hide hfs
      have hF1 := hfs.f.lt
      have z0 := hfs.f.cell 0
      have z1 := hfs.f.cell 1
      have r0 := HRR.out.cell 0
      have r1 := HRR.out.cell 1
      have f0 := HRR.out.frozen 0
      have f1 := HRR.out.frozen 1
      simp at z0 z1 r0 r1
      have hlt2 : w.heap.size < wr.heap.size := by omega
      clear hfs
      go_wp2_with fail
      exact ret_row rfl rfl rfl ((HRR.out.set_ 0 _).set_ 1 _) Tryz.underlying127 rfl (by kernel_rfl) ⟨(HB.out.setCell (by simp) _).setCell (by simp) _, .inr ⟨HK.out, A1, A2, c1, c2, rfl,
        ((HF.out.o1.far (p := ⟨w.heap.size, 0, none⟩) (fun k hk => by have := HF.out.o1.lt k hk; simp; omega) _).far (p := ⟨w.heap.size, 1, none⟩) (fun k hk => by have := HF.out.o1.lt k hk; simp; omega) _).sv,
        ((HF.out.o2.far (p := ⟨w.heap.size, 0, none⟩) (fun k hk => by have := HF.out.o2.lt k hk; simp; omega) _).far (p := ⟨w.heap.size, 1, none⟩) (fun k hk => by have := HF.out.o2.lt k hk; simp; omega) _).sv⟩⟩
end Go.Proofs.YtmfohnchnbgbaaaGreatDoor

/- What is earned ahead of a day. -/
namespace Go.Proofs.YtmfohnchnbgbaaaGreatDoor
open Go.RowKit

theorem valI_nn {t : Int} : ∀ {a v : List Int} {acc : Int}, (∀ x ∈ v, 0 ≤ x) → 0 ≤ acc → 0 ≤ valI t acc a v
  | [], v, _, _, h => by cases v <;> exact h
  | d :: ds, [], _, _, h => h
  | d :: ds, x :: xs, acc, hv, h => by
    rw [valI]
    split
    · exact valI_nn (fun y hy => hv y (by simp [hy])) (hv x (by simp))
    · exact h
theorem pcL_nn {a v : List Int} (hv : ∀ x ∈ v, 0 ≤ x) {t : Int} : ∀ {r : List Int} {f : Int}, ∀ p ∈ pcL a v t f r, 0 ≤ p.2.2
  | [], f, p, hp => by
    simp [pcL] at hp; subst hp
    exact valI_nn hv (Int.le_refl _)
  | d :: r, f, p, hp => by
    rw [pcL] at hp
    split at hp
    · exact pcL_nn hv p hp
    · rcases List.mem_cons.1 hp with rfl | hp
      · exact valI_nn hv (Int.le_refl _)
      · exact pcL_nn hv p hp
theorem sumG_nn : ∀ (L : List (Int × Int × Int)) (s al : Int), (∀ p ∈ L, p.1 < p.2.1 ∧ 0 ≤ p.2.2) → 0 ≤ s → s ≤ al → al ≤ 4000000000000000000 → 0 ≤ (sumG L s al).1 ∧ (sumG L s al).1 ≤ 4000000000000000000
  | [], s, al, _, h1, h2, h3 => by rw [sumG]; exact ⟨h1, by simp only; omega⟩
  | (p, q, v) :: r, s, al, hp, h1, h2, h3 => by
    have h4 := hp (p, q, v) (by simp)
    simp only at h4
    rw [sumG]
    split
    · exact ⟨Int.le_refl _, by decide⟩
    · rename_i h5
      have h6 : max v (-v) = v := by omega
      rw [h6] at h5 ⊢
      have h7 : v ≤ (4000000000000000000 - al) / (q - p) := by omega
      have h8 : v * (q - p) ≤ 4000000000000000000 - al := (Int.le_ediv_iff_mul_le (by omega)).1 h7
      have h9 : 0 ≤ (q - p) * v := Int.mul_nonneg (by omega) h4.2
      rw [Int.mul_comm] at h8
      exact sumG_nn r _ _ (fun x hx => hp x (by simp [hx])) (by omega) (by omega) (by omega)
theorem sumQ_nn {a v : List Int} {f t : Int} (hv : ∀ x ∈ v, 0 ≤ x) : 0 ≤ (sumQ a v f t).1 ∧ (sumQ a v f t).1 ≤ 4000000000000000000 := by
  rw [sumQ]
  split
  · rename_i h1
    split
    · rename_i h2
      have h3 : 1 ≤ f ∧ f < t ∧ t ≤ 292195 := by simpa [daysB] using h2
      exact sumG_nn _ _ _ (fun p hp => ⟨(pcL_ok h1 h3.2.2 h3.1 h3.2.1 p hp).2.1, pcL_nn hv p hp⟩) (by omega) (by omega) (by omega)
    · exact ⟨Int.le_refl _, by decide⟩
  · exact ⟨Int.le_refl _, by decide⟩
def uptD (d : Int) : Int := min (max d 1) 292195
def uptoQ (a v : List Int) (d : Int) : Int × Int :=
  if uptD d = 1 then (0, 0) else if (sumQ a v 1 (uptD d)).2 = 0 then ((evQ (sumQ a v 1 (uptD d)).1.toNat 1 365 : Nat), 0) else (0, (sumQ a v 1 (uptD d)).2)
def endQ (q : Int × Int) (e : Ending) : Prop := (q.2 = 0 ∧ e = .returned (.int .i64 q.1)) ∨ (q.2 ≠ 0 ∧ q.1 = 0 ∧ e = pan q.2)
theorem ev365 (n : Nat) (h : n ≤ 4000000000000000000) : evE n 1 365 = 0 := by
  have h1 := upN_ge (n * 1 / 365) (n * 1 % 365) 365
  rw [evE, if_pos]
  simp only [evN]
  omega
set_option maxRecDepth 100000 in
set_option maxHeartbeats 4000000 in
theorem upto_any (A A2 : Option Addr) (n n2 cap cap2 : Nat) (a v : List Int) (d : Int) (w : World) (hs : SV w 1 A n cap (a.map encI)) (hs2 : SV w 1 A2 n2 cap2 (v.map encI)) (hn6 : n ≤ 1000000) (hv : ∀ x ∈ v, 0 ≤ x) :
    Calls Tryz.prog 42 #[.agg #[.slice A n cap, .slice A2 n2 cap2], .int .i64 d] w fun e w' => endQ (uptoQ a v d) e ∧ Below w.heap.size w w' := by
  by_cases h1 : d ≤ 1
  · have HK := hide (show uptoQ a v d = (0, 0) by rw [uptoQ, if_pos (by simp only [uptD]; omega)])
    obtain ⟨m, hm⟩ : ∃ m, min (max d 1) 292195 = m := ⟨_, rfl⟩
    obtain rfl : m = 1 := by omega
    have hm2 : max d 1 = 1 := by omega
    clear hs hs2 hv h1
    go_enter Tryz.func42, Tryz.ntmps42
    go_wp2_with fail
    go_ret
    exact ⟨.inl (by rw [HK.out]; exact ⟨rfl, rfl⟩), ((Below.refl _ _).alloc (Nat.le_refl _) _).alloc (by simp) _⟩
  · obtain ⟨t, ht⟩ : ∃ t, min (max d 1) 292195 = t := ⟨_, rfl⟩
    have ht1 : t ≠ 1 := by omega
    have HS := hide hs
    have HS2 := hide hs2
    have HV := hide (sumQ_nn (a := a) (f := 1) (t := t) hv)
    obtain ⟨R, hR⟩ : ∃ R, sumQ a v 1 t = R := ⟨_, rfl⟩
    rw [hR] at HV
    have HR := hide hR
    obtain ⟨s, k⟩ := R
    have HQ := hide (show uptoQ a v d = if k = 0 then (((evQ s.toNat 1 365 : Nat) : Int), 0) else (0, k) by rw [uptoQ, show uptD d = t from ht, if_neg ht1, hR])
    obtain ⟨S, hS⟩ : ∃ S : Nat, s = S := ⟨s.toNat, by have := HV.out; omega⟩
    have hS2 : S ≤ 4000000000000000000 := by have := HV.out; omega
    subst hS
    rw [show ((S : Int)).toNat = S from rfl] at HQ
    have HE0 := hide (ev365 S hS2)
    obtain ⟨W1, hW1⟩ : ∃ W, (w.alloc (.cells #[.slice A n cap, .slice A2 n2 cap2] 127)).alloc (.cells #[.int .i64 1, .int .i64 t] 56) = W := ⟨_, rfl⟩
    have H1 := hide (show Below w.heap.size w W1 by rw [← hW1]; exact ((Below.refl _ _).alloc (Nat.le_refl _) _).alloc (by simp) _)
    have HSU := hide (sum_any A A2 n n2 cap cap2 a v 1 t W1 (hs.below H1.out) (hs2.below H1.out) hn6)
    rw [hR] at HSU
    have HW1 := hide hW1
    clear hs hs2 hv hR hW1
    go_enter Tryz.func42, Tryz.ntmps42
    go_wp2_with fail
    rw [show (w.alloc (.cells #[.slice A n cap, .slice A2 n2 cap2] 127)).alloc (.cells #[.int .i64 1, .int .i64 t] 56) = W1 from HW1.out]
    refine HSU.out.mono ?_
    rintro e w3 ⟨rfl, h3⟩
    have H3 := hide (chain H1.out h3)
    clear h3
    simp only
    by_cases hk : k = 0
    · subst hk
      go_wp2_with fail
      refine (must_ok _).mono ?_
      rintro e w4 ⟨rfl, rfl⟩
      go_wp2_with fail
      refine (even_any S 1 365 (by omega) (by omega) (by omega) (by omega) _).mono ?_
      rintro e w5 ⟨rfl, h5⟩
      have H5 := hide (chain H3.out h5)
      rw [HE0.out]
      clear h5
      go_wp2_with fail
      refine (must_ok _).mono ?_
      rintro e w6 ⟨rfl, rfl⟩
      go_wp2_with fail
      go_ret
      exact ⟨.inl (by rw [HQ.out]; exact ⟨rfl, rfl⟩), H5.out⟩
    · have HM := hide (must_no k hk)
      have HK := hide hk
      clear hk
      go_wp2_with fail
      refine (HM.out _).mono ?_
      rintro e w4 ⟨rfl, rfl⟩
      go_wp2_with fail
      exact ⟨rfl, .inr (by rw [HQ.out, if_neg HK.out]; exact ⟨HK.out, rfl, rfl⟩), H3.out⟩
end Go.Proofs.YtmfohnchnbgbaaaGreatDoor

/- What is earned by when: the error that is told on. -/
namespace Go.Proofs.YtmfohnchnbgbaaaGreatDoor
open Go.RowKit

theorem addV_nn {d v : Int} {s : List Int × List Int} (h : ∀ x ∈ s.2, 0 ≤ x) (hv : 0 ≤ v) : ∀ x ∈ (addV d v s).2, 0 ≤ x := by
  have h1 : ∀ x ∈ (popV d s).2, 0 ≤ x := by
    unfold popV
    split
    · exact fun x hx => h x (List.dropLast_subset _ hx)
    · exact h
  unfold addV pushV
  split
  · intro x hx
    rcases List.mem_append.1 hx with hx | hx
    · exact h1 x hx
    · rw [List.mem_singleton] at hx; omega
  · exact h1
theorem chain_nn : ∀ {l : List Sc} {e : Int}, chainS e l = true → ∀ x ∈ l, 0 ≤ x.y
  | x :: r, e, h, y, hy => by
    rw [chainS, Bool.and_eq_true] at h
    rcases List.mem_cons.1 hy with rfl | hy
    · have := h.1; simp [fullA] at this; omega
    · exact chain_nn h.2 y hy
theorem fold_nn : ∀ (l : List Sc) (s : List Int × List Int), (∀ x ∈ l, 0 ≤ x.y) → (∀ x ∈ s.2, 0 ≤ x) → ∀ x ∈ (l.foldl stF s).2, 0 ≤ x
  | [], s, _, h => h
  | x :: r, s, hl, h => fold_nn r _ (fun y hy => hl y (by simp [hy])) (addV_nn (addV_nn h (hl x (by simp))) (Int.le_refl _))
theorem curF_nn {l : List Sc} (h : curK l = 0) : (∀ x ∈ (curF l).2, 0 ≤ x) ∧ (curF l).1.length ≤ 4000 ∧ l.length ≤ 2000 := by
  rw [curK] at h
  split at h
  · cases h
  split at h
  · rename_i h1 h2
    have := curF_len l
    exact ⟨fold_nn l _ (chain_nn h2) (by simp), by omega, by omega⟩
  · cases h
def UptoQ (l : List Sc) (d : Int) : Int × Int := if curK l = 0 then uptoQ (curF l).1 (curF l).2 d else (0, 1)
theorem told_box (G : Nat) (x k : Int) (older : List PanicEntry) (w : World) (hb : Blk w G 27 #[.int .i64 x]) :
    CallsD Tryz.prog 41 #[.pointer (some ⟨G, 0, none⟩)] (.panicking ({ v := .iface 27 (.int .i64 k), recovered := false } :: older)) w fun e u' w' =>
      e = .returned (.tuple #[]) ∧ u' = .panicking ({ v := .iface 27 (.int .i64 k), recovered := true } :: older) ∧ w' = w.setCell ⟨G, 0, none⟩ (.int .i64 k) := told_no _ x k older w (hb.cell 0) (hb.frozen 0)
set_option maxRecDepth 100000 in
set_option maxHeartbeats 4000000 in
theorem Upto_any (HADD : AddcAny) (A : Option Addr) (cap n : Nat) (l : List Sc) (d : Int) (w : World) (hs : SV w 9 A n cap (l.map encSc)) :
    Calls Tryz.prog 19 #[.slice A n cap, .int .i64 d] w fun e w' => e = .returned (.tuple #[.int .i64 (UptoQ l d).1, .int .i64 (UptoQ l d).2]) ∧ Below w.heap.size w w' := by
  obtain ⟨w1, hw1⟩ : ∃ W, w.alloc (.cells #[.int .i64 0] 27) = W := ⟨_, rfl⟩
  have H1 := hide (show Below w.heap.size w w1 by rw [← hw1]; exact (Below.refl _ _).alloc (Nat.le_refl _) _)
  have HB1 := hide (show Blk w1 w.heap.size 27 #[.int .i64 0] by rw [← hw1]; exact Blk.new _ _ _)
  have hz1 : w.heap.size < w1.heap.size := HB1.out.lt
  have HCU := hide (curve_any HADD A cap n l w1 (hs.below H1.out))
  have HW1 := hide hw1
  clear hw1 hs
  go_enter_defers Tryz.func19, Tryz.ntmps19
  go_upto_region 1 with fail
  rw [show w.alloc (.cells #[.int .i64 0] 27) = w1 from HW1.out]
  go_wp2_with fail
  refine HCU.out.mono ?_
  rintro e w2 ⟨h2, hr⟩
  have HB2 := hide (HB1.out.below h2 hz1)
  have H2 := hide (chain H1.out h2)
  have hz2 := HB2.out.lt
  clear h2
  rcases hr with ⟨hk, rfl⟩ | ⟨hk, A1, A2, c1, c2, rfl, hs1, hs2⟩
  · have HQ := hide (show UptoQ l d = (0, 1) by rw [UptoQ, if_neg (by omega)])
    clear hk
    simp only [pan]
    go_wp2_with fail
    refine leaves_cons (f := 41) (args := #[.pointer (some ⟨w.heap.size, 0, none⟩)]) (by simp) (by simp [go_sem]) ?_
    refine (told_box _ 0 1 [] _ HB2.out).mono ?_
    rintro e u' w'' ⟨rfl, rfl, rfl⟩
    have ob := (HB2.out.set_ 0 (.int .i64 1)).cell 0
    simp at ob
    simp only [settle, List.dropWhile]
    simp only [Leaves, results, Tryz.results19, go_sem]
    simp [ob]
    exact ⟨by rw [HQ.out]; exact ⟨rfl, rfl⟩, H2.out.setCell (by simp) _⟩
  · have hnn := curF_nn hk
    have HQ := hide (show UptoQ l d = uptoQ (curF l).1 (curF l).2 d by rw [UptoQ, if_pos hk])
    have HUP := hide (upto_any A1 A2 _ _ c1 c2 (curF l).1 (curF l).2 d w2 hs1 hs2 (by omega) hnn.1)
    clear hk hnn hs1 hs2
    go_wp2_with fail
    refine HUP.out.mono ?_
    rintro e w3 ⟨he, h3⟩
    have HB3 := hide (HB2.out.below h3 hz2)
    have H3 := hide (chain H2.out h3)
    have hz3 := HB3.out.lt
    have f0 := HB3.out.frozen 0
    have y0 := HB3.out.cell 0
    simp at y0
    clear h3
    rcases he with ⟨hk, rfl⟩ | ⟨hk, hk0, rfl⟩
    · go_wp2_with fail
      refine leaves_cons (f := 41) (args := #[.pointer (some ⟨w.heap.size, 0, none⟩)]) (by simp) (by simp [go_sem]) ?_
      refine (told_ok _ _).mono ?_
      rintro e u' w'' ⟨rfl, rfl, rfl⟩
      have ob := (HB3.out.set_ 0 (.int .i64 0)).cell 0
      simp at ob
      simp only [settle]
      simp only [Leaves, results, Tryz.results19, go_sem]
      simp [ob]
      exact ⟨by rw [HQ.out]; exact ⟨rfl, hk.symm⟩, H3.out.setCell (by simp) _⟩
    · obtain ⟨q, hq⟩ : ∃ q, (uptoQ (curF l).1 (curF l).2 d).2 = q := ⟨_, rfl⟩
      rw [hq]
      simp only [pan]
      go_wp2_with fail
      refine leaves_cons (f := 41) (args := #[.pointer (some ⟨w.heap.size, 0, none⟩)]) (by simp) (by simp [go_sem]) ?_
      refine (told_box _ 0 q [] _ HB3.out).mono ?_
      rintro e u' w'' ⟨rfl, rfl, rfl⟩
      have ob := (HB3.out.set_ 0 (.int .i64 q)).cell 0
      simp at ob
      simp only [settle, List.dropWhile]
      simp only [Leaves, results, Tryz.results19, go_sem]
      simp [ob]
      exact ⟨by rw [HQ.out]; exact ⟨hk0.symm, hq.symm⟩, H3.out.setCell (by simp) _⟩
end Go.Proofs.YtmfohnchnbgbaaaGreatDoor

/- What is due: the last cancel or revival. -/
namespace Go.Proofs.YtmfohnchnbgbaaaGreatDoor
open Go.RowKit

/-- A scope with one label: the way from the label on is shown once. -/
theorem wp_scope_once {P : Program} {a : Act} {w : World} {Q : Exit → Act → World → Prop} {c body : Code} (l : Nat) (J : Act → World → Prop) (μ : Act → World → Nat) (hf : findLabel c l = some (Code.seq .skip body))
    (pass : ∀ a w, J a w → body.wp P (Exit.jump l (fun a' w' => J a' w' ∧ μ a' w' < μ a w) Q) a w)
    (first : (∀ a w, J a w → body.wp P (Exit.jump l J Q) a w) → c.wp P (Exit.jump l J Q) a w) : (Code.scope c).wp P Q a w :=
  wp_scope_jumps l J μ hf (first fun a w h => Code.wp_mono (fun e a' w' hq => by
    cases e with
    | goto l' => exact ⟨hq.1, hq.2.1⟩
    | _ => exact hq) (pass a w h)) fun a w h => wp_seq (wp_skip (pass a w h))
/-- The last place of the order, from its end on, that is a cancel or a revival. -/
def turnR (cs : List Ch) : List Nat → Int × Bool
  | [] => (0, false)
  | o :: r => match cs[o]? with
    | some c => if c.k = 3 ∨ c.k = 4 then ((o : Int), true) else turnR cs r
    | none => turnR cs r
theorem rev_take {O : List Nat} {k o : Nat} (h : O[k]? = some o) : (O.take (k + 1)).reverse = o :: (O.take k).reverse := by rw [take_of h]; simp
def TurnJ (h : Hi) (O : List Nat) (w : World) (k : Nat) (A : Option Addr) (cap : Nat) (w' : World) : Prop :=
  k ≤ O.length ∧ turnR h.cs (O.take k).reverse = turnR h.cs O.reverse ∧ SV w' 1 A O.length cap (O.map encN) ∧ Blk w' w.heap.size 64 (hiC h) ∧ Below w.heap.size w w'
set_option maxRecDepth 100000 in
set_option maxHeartbeats 4000000 in
theorem turn_any (h : Hi) (O : List Nat) (w : World) (hv : HV w h) (hO : ∀ (j o : Nat), O[j]? = some o → ∃ c, h.cs[o]? = some c)
    (hord : ∀ W, Below w.heap.size w W → Calls Tryz.prog 74 #[.agg #[.int .i64 h.id, .int .i64 h.bk, .int .i64 h.tm.f, .int .i64 h.tm.t, .int .i64 h.tm.k, .int .i64 h.tm.v, .int .i64 h.tm.a, .int .i64 h.tm.z, .slice h.tm.A h.tm.l.length h.tm.cap, .slice h.A h.cs.length h.cap]] W (OrdP O W)) :
    Calls Tryz.prog 63 #[.agg #[.int .i64 h.id, .int .i64 h.bk, .int .i64 h.tm.f, .int .i64 h.tm.t, .int .i64 h.tm.k, .int .i64 h.tm.v, .int .i64 h.tm.a, .int .i64 h.tm.z, .slice h.tm.A h.tm.l.length h.tm.cap, .slice h.A h.cs.length h.cap]] w fun e w' => e = .returned (.tuple #[.int .i64 (turnR h.cs O.reverse).1, .bool (turnR h.cs O.reverse).2]) ∧ Below w.heap.size w w' := by
  obtain ⟨w1, hw1⟩ : ∃ W, w.alloc (.cells (hiC h) 64) = W := ⟨_, rfl⟩
  have H1 := hide (show Below w.heap.size w w1 by rw [← hw1]; exact (Below.refl _ _).alloc (Nat.le_refl _) _)
  have HB1 := hide (show Blk w1 w.heap.size 64 (hiC h) by rw [← hw1]; exact Blk.new _ _ _)
  obtain ⟨x0, x1, x2, x3, x4, x5, x6, x7, x8, x9⟩ := hi_cells HB1.out
  have HV1 := hide hv
  have HO := hide hO
  have HW1 := hide hw1
  have HORD := hide (hord w1 H1.out)
  obtain ⟨R, hR⟩ : ∃ R, turnR h.cs O.reverse = R := ⟨_, rfl⟩
  rw [hR]
  have HR := hide hR
  clear hw1 hv hO hord hR
  go_enter Tryz.func63, Tryz.ntmps63
  go_wp2_with fail
  refine wp_scope_once 0 (fun a' w' => ∃ (k : Nat) (A : Option Addr) (cap : Nat) (u6 u7 u8 u9 u10 u11 u12 u13 u14 u15 u16 u17 u18 u19 u20 u21 u22 u23 u24 u25 u26 u27 u28 u29 u30 u31 u32 u33 : Value), a' = { tmps := #[.agg #[.int .i64 h.id, .int .i64 h.bk, .int .i64 h.tm.f, .int .i64 h.tm.t, .int .i64 h.tm.k, .int .i64 h.tm.v, .int .i64 h.tm.a, .int .i64 h.tm.z, .slice h.tm.A h.tm.l.length h.tm.cap, .slice h.A h.cs.length h.cap], .pointer (some ⟨w.heap.size, 0, none⟩), .int .i64 0, .bool false, .slice A O.length cap, .int .i64 k, u6, u7, u8, u9, u10, u11, u12, u13, u14, u15, u16, u17, u18, u19, u20, u21, u22, u23, u24, u25, u26, u27, u28, u29, u30, u31, u32, u33], defers := [] } ∧ TurnJ h O w k A cap w') (fun a' _ => (intOf (a'.tmps.getD 5 undef)).toNat) rfl ?_ ?_
  · rintro a' w' ⟨k, A, cap, u6, u7, u8, u9, u10, u11, u12, u13, u14, u15, u16, u17, u18, u19, u20, u21, u22, u23, u24, u25, u26, u27, u28, u29, u30, u31, u32, u33, rfl, hk, ht, hs, hb, hbe⟩
    rw [HR.out] at ht
    have HV := hide (HV1.out.below hbe)
    have HBE := hide hbe
    have HS := hide hs
    have HBK := hide hb
    obtain ⟨x0, x1, x2, x3, x4, x5, x6, x7, x8, x9⟩ := hi_cells hb
    clear hs hb hbe
    rcases Nat.eq_zero_or_pos k with rfl | hkp
    · have hR0 : R = (0, false) := ht.symm
      clear ht x0 x1 x2 x3 x4 x5 x6 x7 x8 x9
      go_wp2_with fail
      simp only [Exit.jump]
      go_ret2
      rw [hR0]
      exact ⟨rfl, HBE.out⟩
    · obtain ⟨m, rfl⟩ : ∃ m, k = m + 1 := ⟨k - 1, by omega⟩
      obtain ⟨o, ho⟩ := get_of (l := O) (k := m) (by omega)
      obtain ⟨c, hc⟩ := HO.out m o ho
      rw [rev_take ho, turnR, hc] at ht
      simp only at ht
      obtain ⟨b, off, rfl, -, hco⟩ := HS.out.sl m (encN o) (by simp [ho])
      have oc := hco 0 _ rfl
      rw [Nat.mul_one, Nat.add_zero] at oc
      obtain ⟨bc, co, hAc, hbc, a0, a1, a2, a3, a4, a5, a6, a7, a8⟩ := HV.out.cs.sl.ch hc
      rw [hAc] at x9
      have hm0 : (0 : Int) ≤ (m : Int) := by omega
      have hm1 : (m : Int) < (O.length : Int) := by omega
      have hm2 : ((m + 1 : Nat) : Int) - 1 = (m : Int) := by omega
      have hm3 : ((((m + 1 : Nat) : Int) == 0) = false) := by simp; omega
      have ho0 : (0 : Int) ≤ (o : Int) := by omega
      have ho1 : (o : Int) < (h.cs.length : Int) := by have := lt_of_get hc; omega
      have hcl := HV.out.cs.le
      have hOl := HS.out.most
      unfold maxLen at hOl
      have hOl2 := HS.out.le
      have HT := hide ht
      clear ht ho hc hco hAc a0 a1 a3 a4 a5 a6 a7 a8 hkp
      by_cases hc3 : c.k = 3 ∨ c.k = 4
      · have hR1 : R = ((o : Int), true) := by have := HT.out; rw [if_pos hc3] at this; exact this.symm
        obtain ⟨K, hK⟩ : ∃ K, c.k = K := ⟨_, rfl⟩
        rw [hK] at a2 hc3
        rcases hc3 with rfl | rfl
        · go_wp2_with fail
          go_region
          go_wp2_with fail
          simp only [Exit.jump]
          go_ret2
          rw [hR1]
          exact ⟨rfl, HBE.out.drew⟩
        · go_wp2_with fail
          go_region
          go_wp2_with fail
          simp only [Exit.jump]
          go_ret2
          rw [hR1]
          exact ⟨rfl, HBE.out.drew⟩
      · have hR1 : turnR h.cs (O.take m).reverse = R := by have := HT.out; rw [if_neg hc3] at this; exact this
        have h3 : (c.k != 3) = true := by simp; omega
        have h4 : (c.k != 4) = true := by simp; omega
        go_wp2_with fail
        go_region
        go_wp2_with fail
        go_step3
        refine ⟨rfl, ⟨m, _, cap, _, _, _, _, _, _, _, _, _, _, _, _, _, _, _, _, _, _, _, _, _, _, _, _, _, _, _, _, rfl, by omega, by rw [HR.out]; exact hR1, HS.out.below (Below.refl _ _).drew, HBK.out.below (Below.refl w'.heap.size _).drew HBK.out.lt, HBE.out.drew⟩, ?_⟩
        simp [intOf]
        try omega
  · intro hbody
    go_upto_region 1 with fail
    rw [show w.alloc (.cells #[.int .i64 h.id, .int .i64 h.bk, .int .i64 h.tm.f, .int .i64 h.tm.t, .int .i64 h.tm.k, .int .i64 h.tm.v, .int .i64 h.tm.a, .int .i64 h.tm.z, .slice h.tm.A h.tm.l.length h.tm.cap, .slice h.A h.cs.length h.cap] 64) = w1 from HW1.out]
    go_wp2_with fail
    refine HORD.out.mono ?_
    rintro e w2 ⟨A, cap, rfl, hs, -, h2⟩
    have HS2 := hide hs
    have H12 := hide h2
    have HBD := hide hbody
    clear h2 hs hbody x0 x1 x2 x3 x4 x5 x6 x7 x8 x9
    go_wp2_with fail
    go_step3
    rename_i hK
    exact hK _ _ (HBD.out _ _ ⟨O.length, A, cap, _, _, _, _, _, _, _, _, _, _, _, _, _, _, _, _, _, _, _, _, _, _, _, _, _, _, _, _, rfl, Nat.le_refl _, by rw [List.take_of_length_le (Nat.le_refl _)], HS2.out, HB1.out.below H12.out (HB1.out.lt), chain H1.out H12.out⟩)
end Go.Proofs.YtmfohnchnbgbaaaGreatDoor

/- A product divided, to the nearest one: the document's. -/
namespace Go.Proofs.YtmfohnchnbgbaaaGreatDoor
open Go.RowKit

/-- q and l are n by c. -/
def Divs (n c q l : Nat) : Prop := q * c + l = n ∧ l < c
theorem Divs.eq {n c q l : Nat} (h : Divs n c q l) : n / c = q ∧ n % c = l := by
  obtain ⟨h1, h2⟩ := h
  have hc : 0 < c := Nat.lt_of_le_of_lt (Nat.zero_le _) h2
  subst h1
  constructor
  · rw [Nat.add_comm, Nat.add_mul_div_right _ _ hc, Nat.div_eq_of_lt h2, Nat.zero_add]
  · rw [Nat.add_comm, Nat.add_mul_mod_self_right, Nat.mod_eq_of_lt h2]
theorem Divs.two_lo {n c q l : Nat} (h : Divs n c q l) (hl : ¬ c ≤ 2 * l) : Divs (2 * n) c (2 * q) (2 * l) := by
  obtain ⟨h1, h2⟩ := h
  refine ⟨?_, by omega⟩
  rw [Nat.mul_assoc]
  generalize q * c = z at *
  omega
theorem Divs.two_hi {n c q l : Nat} (h : Divs n c q l) (hl : c ≤ 2 * l) : Divs (2 * n) c (2 * q + 1) (2 * l - c) := by
  obtain ⟨h1, h2⟩ := h
  refine ⟨?_, by omega⟩
  rw [Nat.add_mul, Nat.mul_assoc, Nat.one_mul]
  generalize q * c = z at *
  omega
theorem Divs.add_lo {n m c q l x y : Nat} (h : Divs n c q l) (h' : Divs m c x y) (hl : ¬ c ≤ l + y) : Divs (n + m) c (q + x) (l + y) := by
  obtain ⟨h1, h2⟩ := h
  obtain ⟨h3, h4⟩ := h'
  refine ⟨?_, by omega⟩
  rw [Nat.add_mul]
  generalize q * c = z at *
  generalize x * c = u at *
  omega
theorem Divs.add_hi {n m c q l x y : Nat} (h : Divs n c q l) (h' : Divs m c x y) (hl : c ≤ l + y) : Divs (n + m) c (q + x + 1) (l + y - c) := by
  obtain ⟨h1, h2⟩ := h
  obtain ⟨h3, h4⟩ := h'
  refine ⟨?_, by omega⟩
  rw [Nat.add_mul, Nat.add_mul, Nat.one_mul]
  generalize q * c = z at *
  generalize x * c = u at *
  omega

/-- What Two answers. -/
def TwoP (a b c : Nat) (e : Ending) : Prop :=
  (a * b / c ≤ 4000000000000000000 ∧ e = .returned (.tuple #[.int .i64 ((a * b / c : Nat) : Int), .int .i64 ((a * b % c : Nat) : Int), .bool true])) ∨ (4000000000000000000 < a * b / c ∧ e = .returned (.tuple #[.int .i64 0, .int .i64 0, .bool false]))
theorem fin_yes {a b c q l : Nat} (h : Divs (b * (a / 2 ^ 0)) c q l) (hq : q ≤ 4000000000000000000) : TwoP a b c (.returned (.tuple #[.int .i64 (q : Int), .int .i64 (l : Int), .bool true])) := by
  rw [Nat.pow_zero, Nat.div_one, Nat.mul_comm] at h
  obtain ⟨h1, h2⟩ := h.eq
  exact .inl ⟨by rw [h1]; exact hq, by rw [h1, h2]⟩
theorem fin_no {a b c v q l : Nat} (hva : v ≤ a) (h : Divs (b * v) c q l) (hq : 4000000000000000000 < q) : TwoP a b c (.returned (.tuple #[.int .i64 0, .int .i64 0, .bool false])) := by
  obtain ⟨h1, _⟩ := h.eq
  have h2 : b * v / c ≤ a * b / c := Nat.div_le_div_right (by rw [Nat.mul_comm a]; exact Nat.mul_le_mul_left _ hva)
  exact .inr ⟨by omega, rfl⟩
end Go.Proofs.YtmfohnchnbgbaaaGreatDoor

/- A product divided, to the nearest one: the document's Even. -/
namespace Go.Proofs.YtmfohnchnbgbaaaGreatDoor
open Go.RowKit

end Go.Proofs.YtmfohnchnbgbaaaGreatDoor

/- How years develop, and what they become, with plain numbers. -/
namespace Go.Proofs.YtmfohnchnbgbaaaGreatDoor

/-- A cell, as a natural number. -/
def celN (l : List Int) (k : Nat) : Nat := (l[k]?.getD 0).toNat
/-- What one year of development had, and had before. -/
def colS (k : Nat) : List (List Int) → Nat × Nat
  | [] => (0, 0)
  | l :: r => let s := colS k r; if k + 1 < l.length then (celN l (k + 1) + s.1, celN l k + s.2) else s
theorem colS_app (k : Nat) : ∀ (a b : List (List Int)), colS k (a ++ b) = ((colS k a).1 + (colS k b).1, (colS k a).2 + (colS k b).2)
  | [], b => by simp [colS]
  | l :: r, b => by
    rw [List.cons_append, colS, colS, colS_app k r b]
    split <;> simp <;> omega
theorem colS_take {c : List (List Int)} {i k : Nat} {l : List Int} (h : c[i]? = some l) : colS k (c.take (i + 1)) = if k + 1 < l.length then ((colS k (c.take i)).1 + celN l (k + 1), (colS k (c.take i)).2 + celN l k) else colS k (c.take i) := by
  rw [take_of h, colS_app]
  simp only [colS]
  split <;> simp
/-- How one year of development develops. -/
def facK (c : List (List Int)) (k : Nat) : Nat × Nat := if (colS k c).2 = 0 then (1, 1) else colS k c
def facL (c : List (List Int)) : List (Nat × Nat) := (List.range (c.length - 1)).map (facK c)
theorem facL_len (c : List (List Int)) : (facL c).length = c.length - 1 := by simp [facL]
theorem facL_get {c : List (List Int)} {k : Nat} (h : k < c.length - 1) : (facL c)[k]? = some (facK c k) := by
  simp [facL, List.getElem?_range h]
/-- All rows' cells are of their size. -/
def OkC (c : List (List Int)) : Prop := c.length ≤ 20 ∧ ∀ l ∈ c, ∀ v ∈ l, 0 ≤ v ∧ v ≤ 100000000000000000
theorem right_okC {f : Int} {c : List (List Int)} (h : rightC f c = true) : OkC c := by
  have h0 := h
  rw [rightC, Bool.and_eq_true] at h
  obtain ⟨h1, h2⟩ := h
  rw [boundsB, decide_eq_true_eq] at h1
  refine ⟨h1.2.1, fun l hl v hv => ?_⟩
  obtain ⟨i, hi, he⟩ := List.getElem_of_mem hl
  have h3 := (rowsB_iff c c.length).1 h2 i l (by rw [List.getElem?_eq_getElem hi, he])
  rw [goodRow, Bool.and_eq_true] at h3
  have h4 := List.all_eq_true.1 h3.2 v hv
  rw [okV, decide_eq_true_eq] at h4
  exact h4
theorem celN_le {l : List Int} (h : ∀ v ∈ l, 0 ≤ v ∧ v ≤ 100000000000000000) (k : Nat) : celN l k ≤ 100000000000000000 := by
  unfold celN
  cases hk : l[k]? with
  | none => simp
  | some v => have := h v (List.mem_of_getElem? hk); simp only [Option.getD_some]; omega
theorem celN_eq {l : List Int} {k : Nat} {v : Int} (h : ∀ v ∈ l, 0 ≤ v ∧ v ≤ 100000000000000000) (hk : l[k]? = some v) : v = (celN l k : Int) := by
  have := h v (List.mem_of_getElem? hk)
  unfold celN
  rw [hk]
  simp only [Option.getD_some]
  omega
theorem colS_le : ∀ {c : List (List Int)} (k : Nat), (∀ l ∈ c, ∀ v ∈ l, 0 ≤ v ∧ v ≤ 100000000000000000) → (colS k c).1 ≤ 100000000000000000 * c.length ∧ (colS k c).2 ≤ 100000000000000000 * c.length
  | [], k, _ => by simp [colS]
  | l :: r, k, h => by
    obtain ⟨h1, h2⟩ := colS_le (c := r) k (fun m hm => h m (by simp [hm]))
    have h3 := celN_le (h l (by simp)) (k + 1)
    have h4 := celN_le (h l (by simp)) k
    rw [colS, List.length_cons, Nat.mul_add]
    split
    · constructor
      · show celN l (k + 1) + (colS k r).1 ≤ _; omega
      · show celN l k + (colS k r).2 ≤ _; omega
    · constructor
      · show (colS k r).1 ≤ _; omega
      · show (colS k r).2 ≤ _; omega
theorem facK_le {c : List (List Int)} (h : OkC c) (k : Nat) : (facK c k).1 ≤ 2000000000000000000 ∧ (facK c k).2 ≤ 2000000000000000000 ∧ 0 < (facK c k).2 := by
  obtain ⟨h1, h2⟩ := colS_le k h.2
  have h3 := h.1
  unfold facK
  split
  · simp
  · rename_i h0
    exact ⟨by omega, by omega, by omega⟩

/-- An amount gone on with; what is amiss. -/
def growN (amt : Nat) : List (Nat × Nat) → Nat × Int
  | [] => (amt, 0)
  | r :: l => if evE amt r.1 r.2 = 0 then growN (evQ amt r.1 r.2) l else (0, evE amt r.1 r.2)
theorem evE_cases (a b c : Nat) : evE a b c = 0 ∨ evE a b c = 5 := by unfold evE; split <;> simp
theorem evQ_le (a b c : Nat) : evQ a b c ≤ 4000000000000000000 := by unfold evQ; split <;> omega
/-- What the years become: the amounts, as long as none is amiss; what is amiss. -/
def allN (F : List (Nat × Nat)) : List (List Int) → List Nat × Int
  | [] => ([], 0)
  | l :: r => let g := growN (celN l (l.length - 1)) (F.drop (l.length - 1)); if g.2 = 0 then (let s := allN F r; if s.2 = 0 then (g.1 :: s.1, 0) else ([], s.2)) else ([], g.2)
def ultN (c : List (List Int)) : List Nat × Int := allN (facL c) c
end Go.Proofs.YtmfohnchnbgbaaaGreatDoor

/- What is due, where none was cancelled short. -/
namespace Go.Proofs.YtmfohnchnbgbaaaGreatDoor
open Go.RowKit

def Sp.sc (x : Sp) : Sc := ⟨x.f, x.t, x.on, x.rk, x.rv, x.ra, x.rz, none, x.l, 0, x.y⟩
theorem chainS_v : ∀ {l l' : List Sc}, l.map Sc.v = l'.map Sc.v → ∀ e, chainS e l = chainS e l'
  | [], [], _, _ => rfl
  | [], _ :: _, h, _ => by cases h
  | _ :: _, [], h, _ => by cases h
  | x :: r, y :: s, h, e => by
    rw [List.map_cons, List.map_cons, List.cons.injEq] at h
    have h1 : x.f = y.f := congrArg Sp.f h.1
    have h2 : x.t = y.t := congrArg Sp.t h.1
    have h3 : x.y = y.y := congrArg Sp.y h.1
    rw [chainS, chainS, h1, h2, h3, chainS_v h.2]
theorem fold_v : ∀ {l l' : List Sc}, l.map Sc.v = l'.map Sc.v → ∀ s, l.foldl stF s = l'.foldl stF s
  | [], [], _, _ => rfl
  | [], _ :: _, h, _ => by cases h
  | _ :: _, [], h, _ => by cases h
  | x :: r, y :: s, h, e => by
    rw [List.map_cons, List.map_cons, List.cons.injEq] at h
    have h1 : x.f = y.f := congrArg Sp.f h.1
    have h2 : x.t = y.t := congrArg Sp.t h.1
    have h3 : x.y = y.y := congrArg Sp.y h.1
    rw [List.foldl_cons, List.foldl_cons, show stF e x = stF e y by rw [stF, stF, h1, h2, h3], fold_v h.2]
theorem UptoQ_v {l l' : List Sc} (h : l.map Sc.v = l'.map Sc.v) (d : Int) : UptoQ l d = UptoQ l' d := by
  have hl : l.length = l'.length := by have := congrArg List.length h; simpa using this
  rw [UptoQ, UptoQ, curK, curK, chainS_v h, hl, curF, curF, fold_v h]
/-- What is earned ahead of a day. -/
def UptoS (V : List Sp) (d : Int) : Int × Int := UptoQ (V.map Sp.sc) d
theorem uptoS_of {out : List Sc} {V : List Sp} (h : out.map Sc.v = V) (d : Int) : UptoQ out d = UptoS V d := by
  subst h
  refine UptoQ_v ?_ d
  rw [List.map_map, List.map_map]
  exact List.map_congr_left fun x _ => rfl
theorem UptoQ_bd (l : List Sc) (d : Int) : 0 ≤ (UptoQ l d).1 ∧ (UptoQ l d).1 ≤ 4000000000000000000 := by
  unfold UptoQ uptoQ
  split
  · split
    · exact ⟨Int.le_refl _, by decide⟩
    · split
      · have := evQ_le (sumQ (curF l).1 (curF l).2 1 (uptD d)).1.toNat 1 365
        exact ⟨by simp only; omega, by simp only; omega⟩
      · exact ⟨Int.le_refl _, by simp⟩
  · exact ⟨Int.le_refl _, by simp⟩
set_option maxRecDepth 100000 in
theorem written_any (A : Option Addr) (cap n : Nat) (l : List Sc) (w : World) (hs : SV w 9 A n cap (l.map encSc)) :
    Calls Tryz.prog 36 #[.slice A n cap] w fun e w' => e = .returned (.tuple #[.int .i64 (UptoQ l 292195).1, .int .i64 (UptoQ l 292195).2]) ∧ Below w.heap.size w w' := by
  have HU := hide (Upto_any addc_all A cap n l 292195 w hs)
  clear hs
  go_enter Tryz.func36, Tryz.ntmps36
  go_wp2_with fail
  refine HU.out.mono ?_
  rintro e w2 ⟨rfl, h2⟩
  go_wp2_with fail
  go_ret2
  exact ⟨rfl, h2⟩
/-- The last cancel or revival. -/
def turnC : List Ch → Option Ch
  | [] => none
  | c :: r => if c.k = 3 ∨ c.k = 4 then some c else turnC r
theorem turn_c {cs L : List Ch} {O : List Nat} (hO : ∀ (j o : Nat), O[j]? = some o → ∃ c, cs[o]? = some c ∧ L[j]? = some c) : ∀ k, k ≤ O.length →
    (turnC (L.take k).reverse = none ∧ turnR cs (O.take k).reverse = (0, false)) ∨ ∃ (o : Nat) (c : Ch), turnC (L.take k).reverse = some c ∧ turnR cs (O.take k).reverse = ((o : Int), true) ∧ cs[o]? = some c
  | 0, _ => .inl ⟨by simp [turnC], by simp [turnR]⟩
  | k + 1, hk => by
    obtain ⟨o, ho⟩ := get_of (l := O) (k := k) (by omega)
    obtain ⟨c, h1, h2⟩ := hO k o ho
    rw [rev_take ho, take_of h2, List.reverse_append, List.reverse_singleton, List.singleton_append, turnC, turnR, h1]
    simp only
    by_cases hc : c.k = 3 ∨ c.k = 4
    · rw [if_pos hc, if_pos hc]
      exact .inr ⟨o, c, rfl, rfl, h1⟩
    · rw [if_neg hc, if_neg hc]
      exact turn_c hO k (by omega)
def shortC (L : List Ch) : Bool := match turnC L.reverse with | some c => decide (c.k = 3 ∧ c.way = 1) | none => false
set_option maxRecDepth 100000 in
set_option maxHeartbeats 4000000 in
theorem kept0_any (h : Hi) (L : List Ch) (A : Option Addr) (cap n : Nat) (M : List Vw) (w : World) (hv : HV w h) (hT : TV w A n cap M) (hm : ∀ x ∈ M, LenV x) (hord : rightH h = true → Ordd w h L) (hsh : shortC L = false) :
    Calls Tryz.prog 35 #[.agg #[.int .i64 h.id, .int .i64 h.bk, .int .i64 h.tm.f, .int .i64 h.tm.t, .int .i64 h.tm.k, .int .i64 h.tm.v, .int .i64 h.tm.a, .int .i64 h.tm.z, .slice h.tm.A h.tm.l.length h.tm.cap, .slice h.A h.cs.length h.cap], .agg #[.slice A n cap]] w fun e w' => e = .returned (.tuple #[.int .i64 0, .int .i64 (slE h L (allV M))]) ∧ Below w.heap.size w w' := by
  obtain rfl : M.length = n := hT.len
  obtain ⟨w1, hw1⟩ : ∃ W, (w.alloc (.cells (hiC h) 64)).alloc (.cells #[.slice A M.length cap] 67) = W := ⟨_, rfl⟩
  have hB : Blk w1 w.heap.size 64 (hiC h) := by rw [← hw1]; exact (Blk.new _ _ _).alloc _
  have hS : Blk w1 (w.heap.size + 1) 67 #[.slice A M.length cap] := by rw [← hw1]; exact Blk.new' (by simp)
  have hb1 : Below w.heap.size w w1 := by rw [← hw1]; exact ((Below.refl _ _).alloc (Nat.le_refl _) _).alloc (by simp) _
  obtain ⟨x0, x1, x2, x3, x4, x5, x6, x7, x8, x9⟩ := hi_cells hB
  have z0 := hS.cell 0
  simp at z0
  have H1 := hide hb1
  have HB := hide hB
  have HW := hide hw1
  have HV1 := hide (hv.below hb1)
  have HOD := hide (show rightH h = true → Ordd w1 h L from fun hr => (hord hr).below hb1)
  have HSL := hide (slc_any h L A cap M w1 (hv.below hb1) (hT.below hb1) hm HOD.out)
  obtain ⟨E, hE⟩ : ∃ E, slE h L (allV M) = E := ⟨_, rfl⟩
  rw [hE] at HSL ⊢
  have HE := hide hE
  have HSH := hide hsh
  have hsz : w.heap.size < w1.heap.size := hB.lt
  clear hB hS hb1 hw1 hv hT hm hord hE hsh
  go_enter Tryz.func35, Tryz.ntmps35
  go_upto_region 1 with fail
  rw [show (w.alloc (.cells #[.int .i64 h.id, .int .i64 h.bk, .int .i64 h.tm.f, .int .i64 h.tm.t, .int .i64 h.tm.k, .int .i64 h.tm.v, .int .i64 h.tm.a, .int .i64 h.tm.z, .slice h.tm.A h.tm.l.length h.tm.cap, .slice h.A h.cs.length h.cap] 64)).alloc (.cells #[.slice A M.length cap] 67) = w1 from HW.out]
  go_wp2_with fail
  refine HSL.out.mono ?_
  rintro e w2 ⟨h2, hr⟩
  have H2 := hide (chain H1.out h2)
  have HB2 := hide (HB.out.below h2 hsz)
  rcases hr with ⟨hne, rfl⟩ | ⟨rfl, A5, cap5, out, rfl, -, -⟩
  · have hq : (E != 0) = true := by simpa using hne
    clear hne h2 x0 x1 x2 x3 x4 x5 x6 x7 x8 x9 z0
    go_wp2_with fail
    go_ret2
    exact ⟨rfl, H2.out⟩
  · have hr : rightH h = true := by
      have := HE.out
      rw [slE] at this
      by_cases hr : rightH h = true
      · exact hr
      · rw [if_neg hr] at this; cases this
    obtain ⟨O, o1, o2, o3, o4⟩ := ((HOD.out hr).below h2).ex
    have HTU := hide (turn_any h O w2 (HV1.out.below h2) (fun j o ho => let ⟨c, hc, _⟩ := o2 j o ho; ⟨c, hc⟩) o4)
    have HTC := hide (turn_c o2 O.length (Nat.le_refl _))
    rw [List.take_of_length_le (Nat.le_refl _), List.take_of_length_le (by omega)] at HTC
    have HV2 := hide (HV1.out.below h2)
    clear o1 o2 o3 o4 hr h2 x0 x1 x2 x3 x4 x5 x6 x7 x8 x9 z0
    obtain ⟨x0, x1, x2, x3, x4, x5, x6, x7, x8, x9⟩ := hi_cells HB2.out
    go_wp2_with fail
    refine HTU.out.mono ?_
    rintro e w3 ⟨rfl, h3⟩
    have H3 := hide (chain H2.out h3)
    have HB3 := hide (HB2.out.below h3 HB2.out.lt)
    have HV3 := hide (HV2.out.below h3)
    clear x0 x1 x2 x3 x4 x5 x6 x7 x8 x9 h3
    rcases HTC.out with ⟨hc, ht⟩ | ⟨o, c, hc, ht, hco⟩
    · rw [ht]
      clear ht hc
      go_wp2_with fail
      go_ret2
      exact ⟨rfl, H3.out⟩
    · rw [ht]
      have hsh := HSH.out
      rw [shortC, hc] at hsh
      simp only [decide_eq_false_iff_not] at hsh
      obtain ⟨x0, x1, x2, x3, x4, x5, x6, x7, x8, x9⟩ := hi_cells HB3.out
      obtain ⟨bc, co, hAc, hbc, a0, a1, a2, a3, a4, a5, a6, a7, a8⟩ := HV3.out.cs.sl.ch hco
      rw [hAc] at x9
      have ho0 : (0 : Int) ≤ (o : Int) := by omega
      have ho1 : (o : Int) < (h.cs.length : Int) := by have := lt_of_get hco; omega
      clear ht hc hAc hco
      by_cases h3 : c.k = 3
      · have hw1 : (c.way != 1) = true := by simp; intro e; exact hsh ⟨h3, e⟩
        rw [h3] at a2
        clear h3 hsh
        go_wp2_with fail
        go_ret2
        exact ⟨rfl, H3.out⟩
      · have hk3 : (c.k != 3) = true := by simpa using h3
        clear h3 hsh
        go_wp2_with fail
        go_ret2
        exact ⟨rfl, H3.out⟩
end Go.Proofs.YtmfohnchnbgbaaaGreatDoor

/- What is due, in all. -/
namespace Go.Proofs.YtmfohnchnbgbaaaGreatDoor
open Go.RowKit

def dueQ (K : Int × Int) (V : List Sp) : Int × Int :=
  if K.2 ≠ 0 then (0, K.2) else if (UptoS V 292195).2 ≠ 0 then (0, (UptoS V 292195).2) else if 4000000000000000000 - K.1 < (UptoS V 292195).1 then (0, 5) else ((UptoS V 292195).1 + K.1, 0)
set_option maxRecDepth 100000 in
set_option maxHeartbeats 4000000 in
theorem due_any (h : Hi) (L : List Ch) (A : Option Addr) (cap n : Nat) (M : List Vw) (K : Int × Int) (w : World) (hv : HV w h) (hT : TV w A n cap M) (hm : ∀ x ∈ M, LenV x) (hord : rightH h = true → Ordd w h L)
    (hK : ∀ W, Below w.heap.size w W → Calls Tryz.prog 35 #[.agg #[.int .i64 h.id, .int .i64 h.bk, .int .i64 h.tm.f, .int .i64 h.tm.t, .int .i64 h.tm.k, .int .i64 h.tm.v, .int .i64 h.tm.a, .int .i64 h.tm.z, .slice h.tm.A h.tm.l.length h.tm.cap, .slice h.A h.cs.length h.cap], .agg #[.slice A n cap]] W fun e w' => e = .returned (.tuple #[.int .i64 K.1, .int .i64 K.2]) ∧ Below W.heap.size W w')
    (hb : 0 ≤ K.1 ∧ K.1 ≤ 4000000000000000000) (hE0 : K.2 = 0 → slE h L (allV M) = 0) :
    Calls Tryz.prog 17 #[.agg #[.int .i64 h.id, .int .i64 h.bk, .int .i64 h.tm.f, .int .i64 h.tm.t, .int .i64 h.tm.k, .int .i64 h.tm.v, .int .i64 h.tm.a, .int .i64 h.tm.z, .slice h.tm.A h.tm.l.length h.tm.cap, .slice h.A h.cs.length h.cap], .agg #[.slice A n cap]] w fun e w' => e = .returned (.tuple #[.int .i64 (dueQ K (slL h L (allV M))).1, .int .i64 (dueQ K (slL h L (allV M))).2]) ∧ Below w.heap.size w w' := by
  obtain rfl : M.length = n := hT.len
  obtain ⟨k1, k2⟩ := K
  simp only at hK hb hE0
  obtain ⟨w1, hw1⟩ : ∃ W, (w.alloc (.cells (hiC h) 64)).alloc (.cells #[.slice A M.length cap] 67) = W := ⟨_, rfl⟩
  have hB : Blk w1 w.heap.size 64 (hiC h) := by rw [← hw1]; exact (Blk.new _ _ _).alloc _
  have hS : Blk w1 (w.heap.size + 1) 67 #[.slice A M.length cap] := by rw [← hw1]; exact Blk.new' (by simp)
  have hb1 : Below w.heap.size w w1 := by rw [← hw1]; exact ((Below.refl _ _).alloc (Nat.le_refl _) _).alloc (by simp) _
  obtain ⟨x0, x1, x2, x3, x4, x5, x6, x7, x8, x9⟩ := hi_cells hB
  have z0 := hS.cell 0
  simp at z0
  have H1 := hide hb1
  have HB := hide hB
  have HS := hide hS
  have HW := hide hw1
  have HV1 := hide (hv.below hb1)
  have HT1 := hide (hT.below hb1)
  have HM := hide hm
  have HOD := hide (show rightH h = true → Ordd w1 h L from fun hr => (hord hr).below hb1)
  have HK := hide (hK w1 hb1)
  have HE0 := hide hE0
  obtain ⟨V, hV⟩ : ∃ V, slL h L (allV M) = V := ⟨_, rfl⟩
  rw [hV]
  have HVV := hide hV
  obtain ⟨R, hR⟩ : ∃ R, dueQ (k1, k2) V = R := ⟨_, rfl⟩
  rw [hR]
  have HR := hide hR
  have hsz : w.heap.size + 1 < w1.heap.size := hS.lt
  clear hB hS hb1 hw1 hv hT hm hord hK hE0 hV hR
  go_enter Tryz.func17, Tryz.ntmps17
  go_upto_region 1 with fail
  rw [show (w.alloc (.cells #[.int .i64 h.id, .int .i64 h.bk, .int .i64 h.tm.f, .int .i64 h.tm.t, .int .i64 h.tm.k, .int .i64 h.tm.v, .int .i64 h.tm.a, .int .i64 h.tm.z, .slice h.tm.A h.tm.l.length h.tm.cap, .slice h.A h.cs.length h.cap] 64)).alloc (.cells #[.slice A M.length cap] 67) = w1 from HW.out]
  go_wp2_with fail
  refine HK.out.mono ?_
  rintro e w2 ⟨rfl, h2⟩
  have H2 := hide (chain H1.out h2)
  have HB2 := hide (HB.out.below h2 (by omega))
  have HS2 := hide (HS.out.below h2 (by omega))
  have H12 := hide h2
  clear h2 x0 x1 x2 x3 x4 x5 x6 x7 x8 x9 z0
  by_cases hk2 : k2 = 0
  · subst hk2
    have hE := HE0.out rfl
    have HSL := hide (slc_any h L A cap M w2 (HV1.out.below H12.out) (HT1.out.below H12.out) HM.out (fun hr => (HOD.out hr).below H12.out))
    rw [hE, HVV.out] at HSL
    obtain ⟨x0, x1, x2, x3, x4, x5, x6, x7, x8, x9⟩ := hi_cells HB2.out
    have z0 := HS2.out.cell 0
    simp at z0
    go_wp2_with fail
    refine HSL.out.mono ?_
    rintro e w3 ⟨h3, hr⟩
    have H3 := hide (chain H2.out h3)
    clear h3 x0 x1 x2 x3 x4 x5 x6 x7 x8 x9 z0
    rcases hr with ⟨hne, -⟩ | ⟨-, A5, cap5, out, rfl, hov, hmd⟩
    · exact absurd rfl hne
    · have HWR := hide (written_any A5 cap5 out.length out w3 hmd.own.sv)
      rw [uptoS_of hov] at HWR
      have HBD := hide (UptoQ_bd out 292195)
      rw [uptoS_of hov] at HBD
      have HQ := hide (show dueQ (k1, 0) V = if (UptoS V 292195).2 ≠ 0 then (0, (UptoS V 292195).2) else if 4000000000000000000 - k1 < (UptoS V 292195).1 then (0, 5) else ((UptoS V 292195).1 + k1, 0) by rw [dueQ, if_neg (by simp)])
      obtain ⟨U, hU⟩ : ∃ U, UptoS V 292195 = U := ⟨_, rfl⟩
      rw [hU] at HWR HBD HQ
      obtain ⟨u1, u2⟩ := U
      simp only at HWR HBD HQ
      clear hU hov hmd
      go_wp2_with fail
      refine HWR.out.mono ?_
      rintro e w4 ⟨rfl, h4⟩
      have H4 := hide (chain H3.out h4)
      clear h4
      by_cases hu2 : u2 = 0
      · subst hu2
        have hu := HBD.out
        by_cases hov : 4000000000000000000 - k1 < u1
        · have hR : R = (0, 5) := by rw [← HR.out, HQ.out, if_neg (by simp), if_pos hov]
          subst hR
          go_wp2_with fail
          go_ret2
          exact ⟨rfl, H4.out⟩
        · have hR : R = (u1 + k1, 0) := by rw [← HR.out, HQ.out, if_neg (by simp), if_neg hov]
          subst hR
          go_wp2_with fail
          go_ret2
          exact ⟨rfl, H4.out⟩
      · have hR : R = (0, u2) := by rw [← HR.out, HQ.out, if_pos hu2]
        have hq : (u2 != 0) = true := by simpa using hu2
        subst hR
        clear hu2
        go_wp2_with fail
        go_ret2
        exact ⟨rfl, H4.out⟩
  · have hR : R = (0, k2) := by rw [← HR.out, dueQ, if_pos hk2]
    have hq : (k2 != 0) = true := by simpa using hk2
    subst hR
    clear hk2
    go_wp2_with fail
    go_ret2
    exact ⟨rfl, H2.out⟩
end Go.Proofs.YtmfohnchnbgbaaaGreatDoor

/- A change more: copies of covers, of terms. -/
namespace Go.Proofs.YtmfohnchnbgbaaaGreatDoor
open Go.RowKit

theorem elCh : ElT Tryz.prog 62 77 9 88 := ElT.mk' (z := .agg #[.int .i64 0, .int .i64 0, .int .i64 0, .int .i64 0, .int .i64 0, .int .i64 0, .int .i64 0, .slice none 0 0, .int .i64 0]) Tryz.underlying62 (by kernel_rfl) rfl (by omega)
theorem okChs (l : List Ch) : RowsOk 9 (l.map encCh) := by
  intro r hr
  obtain ⟨x, _, rfl⟩ := List.mem_map.1 hr
  refine ⟨rfl, fun u hu => ?_⟩
  simp [encCh] at hu
  rcases hu with rfl | rfl | rfl | rfl | rfl | rfl | rfl | rfl | rfl <;> rfl
set_option maxHeartbeats 1000000 in
theorem cloneC_any (A : Option Addr) (n cap : Nat) (l : List Cv) (w : World) (hs : SV w 5 A n cap (l.map encCv)) (hm : n ≤ 1000000) :
    Calls Tryz.prog 83 #[.slice A n cap] w (CopyP w 41 5 n (l.map encCv)) := by
  have hq := fun (W : World) => Lib.run_eql_slice_nil (P := Tryz.prog) W 59 41 A n cap 0 0 Tryz.underlying59
  have hn : l.length = n := by have := hs.len; simpa using this
  have HS := hide hs
  have HN := hide hn
  clear hs hn
  cases A with
  | none =>
    have h0 : n = 0 := by have := HS.out.nil rfl; have := HS.out.le; omega
    have hc0 : cap = 0 := HS.out.nil rfl
    have hl : l = [] := List.eq_nil_of_length_eq_zero (by rw [HN.out]; exact h0)
    subst hl h0 hc0
    go_enter Tryz.func83, Tryz.ntmps83
    go_wp2_with fail
    go_ret
    exact ⟨none, 0, rfl, OwnS.nil_ _ _ _ _, Below.refl _ _⟩
  | some a =>
    go_enter Tryz.func83, Tryz.ntmps83
    go_wp2_with (at_builtin
                 refine wpList_app rfl (.tmp 5) (.tmp 6) 59 rfl elCov (B := w.heap.size) (A := some ⟨_, 0, none⟩) (rows := []) (news := l.map encCv) rfl (own_of_blk (Blk.new _ _ _) (Nat.le_refl _)) rfl (by simp; exact HN.out) ?_ (okCov l) ?_ ?_ ?_ ?_
                 · exact (HS.out.sl.below ((Below.refl _ _).alloc (Nat.le_refl _) _)).more (by simp)
                 · simp only [maxLen]; omega
                 · omega
                 · simp
                 intro A1 c1 wa ho1 hg1 ha1
                 rw [Nat.zero_add, List.nil_append] at ho1
                 have hba : Below w.heap.size w wa := ((Below.refl _ _).alloc (Nat.le_refl _) _).grown hg1 (by simp) (fun kk hk => by simp [blk] at hk; omega)
                 have HO := hide ho1
                 clear hg1 ha1 ho1)
    go_ret
    exact ⟨A1, c1, by simp, HO.out, hba⟩
def OwnTP (x : Tm) (w : World) (e : Ending) (w' : World) : Prop :=
  ∃ (A' : Option Addr) (c' : Nat), e = .returned (.agg #[.int .i64 x.f, .int .i64 x.t, .int .i64 x.k, .int .i64 x.v, .int .i64 x.a, .int .i64 x.z, .slice A' x.l.length c']) ∧ SV w' 5 A' x.l.length c' (x.l.map encCv) ∧ (∀ k, blk A' = some k → w.heap.size ≤ k) ∧ Below w.heap.size w w'
def tmCA (x : Tm) (A : Option Addr) (c : Nat) : Array Value := #[.int .i64 x.f, .int .i64 x.t, .int .i64 x.k, .int .i64 x.v, .int .i64 x.a, .int .i64 x.z, .slice A x.l.length c]
theorem tmA_cells {w : World} {g : Nat} {x : Tm} {A : Option Addr} {c : Nat} (h : Blk w g 61 (tmCA x A c)) : w.cell? ⟨g, 0, none⟩ = some (.int .i64 x.f) ∧ w.cell? ⟨g, 1, none⟩ = some (.int .i64 x.t) ∧ w.cell? ⟨g, 2, none⟩ = some (.int .i64 x.k) ∧ w.cell? ⟨g, 3, none⟩ = some (.int .i64 x.v) ∧
    w.cell? ⟨g, 4, none⟩ = some (.int .i64 x.a) ∧ w.cell? ⟨g, 5, none⟩ = some (.int .i64 x.z) ∧ w.cell? ⟨g, 6, none⟩ = some (.slice A x.l.length c) := ⟨h.cell 0, h.cell 1, h.cell 2, h.cell 3, h.cell 4, h.cell 5, h.cell 6⟩
set_option maxHeartbeats 1000000 in
theorem ownT_any (x : Tm) (w : World) (hs : SV w 5 x.A x.l.length x.cap (x.l.map encCv)) (hm : x.l.length ≤ 1000000) :
    Calls Tryz.prog 84 #[.agg #[.int .i64 x.f, .int .i64 x.t, .int .i64 x.k, .int .i64 x.v, .int .i64 x.a, .int .i64 x.z, .slice x.A x.l.length x.cap]] w (OwnTP x w) := by
  obtain ⟨w1, hw1⟩ : ∃ W, (w.alloc (.cells (tmCA x x.A x.cap) 61)).alloc (.cells #[.int .i64 0, .int .i64 0, .int .i64 0, .int .i64 0, .int .i64 0, .int .i64 0, .slice none 0 0] 61) = W := ⟨_, rfl⟩
  have HB := hide (show Blk w1 w.heap.size 61 (tmCA x x.A x.cap) by rw [← hw1]; exact (Blk.new _ _ _).alloc _)
  have HR := hide (show Blk w1 (w.heap.size + 1) 61 #[.int .i64 0, .int .i64 0, .int .i64 0, .int .i64 0, .int .i64 0, .int .i64 0, .slice none 0 0] by rw [← hw1]; exact Blk.new' (by simp))
  have H1 := hide (show Below w.heap.size w w1 by rw [← hw1]; exact ((Below.refl _ _).alloc (Nat.le_refl _) _).alloc (by simp) _)
  have HCL := hide (cloneC_any x.A x.l.length x.cap x.l w1 (hs.below H1.out) hm)
  have HW1 := hide hw1
  have hz := HR.out.lt
  obtain ⟨x0, x1, x2, x3, x4, x5, x6⟩ := tmA_cells HB.out
  clear hw1 hs
  go_enter Tryz.func84, Tryz.ntmps84
  go_upto_region 1 with fail
  rw [show (w.alloc (.cells #[.int .i64 x.f, .int .i64 x.t, .int .i64 x.k, .int .i64 x.v, .int .i64 x.a, .int .i64 x.z, .slice x.A x.l.length x.cap] 61)).alloc (.cells #[.int .i64 0, .int .i64 0, .int .i64 0, .int .i64 0, .int .i64 0, .int .i64 0, .slice none 0 0] 61) = w1 from HW1.out]
  clear x0 x1 x2 x3 x4 x5
  go_wp2_with fail
  refine HCL.out.mono ?_
  rintro e w2 ⟨A', c', rfl, ho, h2⟩
  have HO := hide ho
  have H2 := hide (chain H1.out h2)
  have HB2 := hide (HB.out.below h2 (by omega))
  have HR2 := hide (HR.out.below h2 hz)
  have hlt := HB2.out.lt
  have hltR := HR2.out.lt
  have f6 := HB2.out.frozen 6
  have q6 := HB2.out.cell 6
  have HS3 := hide ((HB2.out.set_ 6 (.slice A' x.l.length c')))
  obtain ⟨y0, y1, y2, y3, y4, y5, y6⟩ := tmA_cells HB2.out
  have r0 : w2.cell? ⟨w.heap.size + 1, 0, none⟩ = some (.int .i64 0) := HR2.out.cell 0
  have g0 := HR2.out.frozen 0
  have r1 : w2.cell? ⟨w.heap.size + 1, 1, none⟩ = some (.int .i64 0) := HR2.out.cell 1
  have g1 := HR2.out.frozen 1
  have r2 : w2.cell? ⟨w.heap.size + 1, 2, none⟩ = some (.int .i64 0) := HR2.out.cell 2
  have g2 := HR2.out.frozen 2
  have r3 : w2.cell? ⟨w.heap.size + 1, 3, none⟩ = some (.int .i64 0) := HR2.out.cell 3
  have g3 := HR2.out.frozen 3
  have r4 : w2.cell? ⟨w.heap.size + 1, 4, none⟩ = some (.int .i64 0) := HR2.out.cell 4
  have g4 := HR2.out.frozen 4
  have r5 : w2.cell? ⟨w.heap.size + 1, 5, none⟩ = some (.int .i64 0) := HR2.out.cell 5
  have g5 := HR2.out.frozen 5
  have r6 : w2.cell? ⟨w.heap.size + 1, 6, none⟩ = some (.slice none 0 0) := HR2.out.cell 6
  have g6 := HR2.out.frozen 6
  clear ho h2 x6 q6
  go_wp2_with fail
  exact ret_row rfl rfl rfl ((((((((HR2.out.far (p := ⟨w.heap.size, 6, none⟩) (by simp) _).set_ 0 _).set_ 1 _).set_ 2 _).set_ 3 _).set_ 4 _).set_ 5 _).set_ 6 _) Tryz.underlying61 rfl (by kernel_rfl) ⟨A', c', rfl, ((((((((HO.out.far (p := ⟨w.heap.size, 6, none⟩) (fun k hk => by have := (HO.out.lt k hk).1; simp; omega) _).far (p := ⟨w.heap.size + 1, 0, none⟩) (fun k hk => by have := (HO.out.lt k hk).1; simp; omega) _).far (p := ⟨w.heap.size + 1, 1, none⟩) (fun k hk => by have := (HO.out.lt k hk).1; simp; omega) _).far (p := ⟨w.heap.size + 1, 2, none⟩) (fun k hk => by have := (HO.out.lt k hk).1; simp; omega) _).far (p := ⟨w.heap.size + 1, 3, none⟩) (fun k hk => by have := (HO.out.lt k hk).1; simp; omega) _).far (p := ⟨w.heap.size + 1, 4, none⟩) (fun k hk => by have := (HO.out.lt k hk).1; simp; omega) _).far (p := ⟨w.heap.size + 1, 5, none⟩) (fun k hk => by have := (HO.out.lt k hk).1; simp; omega) _).far (p := ⟨w.heap.size + 1, 6, none⟩) (fun k hk => by have := (HO.out.lt k hk).1; simp; omega) _).sv, fun k hk => by have := (HO.out.lt k hk).1; omega, ((((((((H2.out.setCell (p := ⟨w.heap.size, 6, none⟩) (by simp) _).setCell (p := ⟨w.heap.size + 1, 0, none⟩) (by simp) _).setCell (p := ⟨w.heap.size + 1, 1, none⟩) (by simp) _).setCell (p := ⟨w.heap.size + 1, 2, none⟩) (by simp) _).setCell (p := ⟨w.heap.size + 1, 3, none⟩) (by simp) _).setCell (p := ⟨w.heap.size + 1, 4, none⟩) (by simp) _).setCell (p := ⟨w.heap.size + 1, 5, none⟩) (by simp) _).setCell (p := ⟨w.heap.size + 1, 6, none⟩) (by simp) _)⟩
end Go.Proofs.YtmfohnchnbgbaaaGreatDoor

/- A change more, behind none: change.Put. -/
namespace Go.Proofs.YtmfohnchnbgbaaaGreatDoor
open Go.RowKit

def hiZ : Array Value := #[.int .i64 0, .int .i64 0, .int .i64 0, .int .i64 0, .int .i64 0, .int .i64 0, .int .i64 0, .int .i64 0, .slice none 0 0, .slice none 0 0]
def chA (c : Ch) (A : Option Addr) (k : Nat) : Array Value := #[.int .i64 c.b, .int .i64 c.d, .int .i64 c.k, .int .i64 c.rk, .int .i64 c.rv, .int .i64 c.ra, .int .i64 c.rz, .slice A c.l.length k, .int .i64 c.way]
theorem chA_cells {w : World} {g : Nat} {c : Ch} {A : Option Addr} {k : Nat} (h : Blk w g 77 (chA c A k)) : w.cell? ⟨g, 0, none⟩ = some (.int .i64 c.b) ∧ w.cell? ⟨g, 1, none⟩ = some (.int .i64 c.d) ∧ w.cell? ⟨g, 2, none⟩ = some (.int .i64 c.k) ∧ w.cell? ⟨g, 3, none⟩ = some (.int .i64 c.rk) ∧
    w.cell? ⟨g, 4, none⟩ = some (.int .i64 c.rv) ∧ w.cell? ⟨g, 5, none⟩ = some (.int .i64 c.ra) ∧ w.cell? ⟨g, 6, none⟩ = some (.int .i64 c.rz) ∧ w.cell? ⟨g, 7, none⟩ = some (.slice A c.l.length k) ∧ w.cell? ⟨g, 8, none⟩ = some (.int .i64 c.way) := ⟨h.cell 0, h.cell 1, h.cell 2, h.cell 3, h.cell 4, h.cell 5, h.cell 6, h.cell 7, h.cell 8⟩
def hiA (h : Hi) (A : Option Addr) (k : Nat) : Array Value := #[.int .i64 h.id, .int .i64 h.bk, .int .i64 h.tm.f, .int .i64 h.tm.t, .int .i64 h.tm.k, .int .i64 h.tm.v, .int .i64 h.tm.a, .int .i64 h.tm.z, .slice A h.tm.l.length k, .slice none 0 0]
theorem hi_fill {w : World} {g : Nat} {T : TypeId} {a0 a1 a2 a3 a4 a5 a6 a7 a8 a9 z0 z1 z2 z3 z4 z5 z6 z7 z8 z9 : Value} (h : Blk w g T #[z0, z1, z2, z3, z4, z5, z6, z7, z8, z9]) : Blk ((((((((((w.setCell ⟨g, 0, none⟩ a0).setCell ⟨g, 1, none⟩ a1).setCell ⟨g, 2, none⟩ a2).setCell ⟨g, 3, none⟩ a3).setCell ⟨g, 4, none⟩ a4).setCell ⟨g, 5, none⟩ a5).setCell ⟨g, 6, none⟩ a6).setCell ⟨g, 7, none⟩ a7).setCell ⟨g, 8, none⟩ a8).setCell ⟨g, 9, none⟩ a9) g T #[a0, a1, a2, a3, a4, a5, a6, a7, a8, a9] := by
  have := ((((((((((h.set_ 0 a0).set_ 1 a1).set_ 2 a2).set_ 3 a3).set_ 4 a4).set_ 5 a5).set_ 6 a6).set_ 7 a7).set_ 8 a8).set_ 9 a9)
  simpa using this
def PutP (h : Hi) (c : Ch) (w : World) (e : Ending) (w' : World) : Prop :=
  ∃ (tA cA A : Option Addr) (tc cc cap : Nat) (x : Hi), x = { h with tm := { h.tm with A := tA, cap := tc }, A := A, cs := [{ c with A := cA, cap := cc }], cap := cap } ∧ e = .returned (.tuple #[.agg #[.int .i64 x.id, .int .i64 x.bk, .int .i64 x.tm.f, .int .i64 x.tm.t, .int .i64 x.tm.k, .int .i64 x.tm.v, .int .i64 x.tm.a, .int .i64 x.tm.z, .slice x.tm.A x.tm.l.length x.tm.cap, .slice x.A x.cs.length x.cap], .int .i64 0]) ∧ HV w' x ∧ Below w.heap.size w w'
set_option linter.unusedSimpArgs false in
set_option maxRecDepth 100000 in
set_option maxHeartbeats 4000000 in
theorem put0_any (h : Hi) (c : Ch) (w : World) (hv : HV w h) (hcs : h.cs = []) (hA : h.A = none) (hcap : h.cap = 0) (hcv : SV w 5 c.A c.l.length c.cap (c.l.map encCv)) (hoc : okCh c) (hr : changeB c = true) (hin : inB h.tm.f h.tm.t c.d = true) (hb : h.bk ≤ c.b)
    (hm : h.tm.l.length ≤ 1000000 ∧ c.l.length ≤ 1000000) : Calls Tryz.prog 44 #[.agg #[.int .i64 h.id, .int .i64 h.bk, .int .i64 h.tm.f, .int .i64 h.tm.t, .int .i64 h.tm.k, .int .i64 h.tm.v, .int .i64 h.tm.a, .int .i64 h.tm.z, .slice h.tm.A h.tm.l.length h.tm.cap, .slice h.A h.cs.length h.cap], .agg #[.int .i64 c.b, .int .i64 c.d, .int .i64 c.k, .int .i64 c.rk, .int .i64 c.rv, .int .i64 c.ra, .int .i64 c.rz, .slice c.A c.l.length c.cap, .int .i64 c.way]] w (PutP h c w) := by
  obtain ⟨w1, hw1⟩ : ∃ W, ((w.alloc (.cells (hiC h) 64)).alloc (.cells (chA c c.A c.cap) 77)).alloc (.cells hiZ 64) = W := ⟨_, rfl⟩
  have hH1 : Blk w1 w.heap.size 64 (hiC h) := by rw [← hw1]; exact ((Blk.new _ _ _).alloc _).alloc _
  have hC1 : Blk w1 (w.heap.size + 1) 77 (chA c c.A c.cap) := by rw [← hw1]; exact (Blk.new' (by simp)).alloc _
  have hR1 : Blk w1 (w.heap.size + 1 + 1) 64 hiZ := by rw [← hw1]; exact Blk.new' (by simp)
  have hb1 : Below w.heap.size w w1 := by rw [← hw1]; exact (((Below.refl _ _).alloc (Nat.le_refl _) _).alloc (by simp) _).alloc (by simp; omega) _
  have hz1 : w.heap.size + 1 + 1 < w1.heap.size := hR1.lt
  obtain ⟨x0, x1, x2, x3, x4, x5, x6, x7, x8, x9⟩ := hi_cells hH1
  obtain ⟨y0, y1, y2, y3, y4, y5, y6, y7, y8⟩ := chA_cells hC1
  rw [hcs, hA, hcap] at x9
  simp only [List.length_nil] at x9
  have H1 := hide hb1
  have HH := hide hH1
  have HC := hide hC1
  have HR := hide hR1
  have HW := hide hw1
  have HV1 := hide (hv.below hb1)
  have HCV := hide (hcv.below hb1)
  have HCR := hide (change_any c w1 hoc.1 (hcv.below hb1) hoc.2)
  rw [hr] at HCR
  have HIN := hide (fun W => in_any h.tm.f h.tm.t c.d W)
  rw [hin] at HIN
  have HCS := hide hcs
  have HV0 := hide hv
  have HA0 := hide hA
  have HP0 := hide hcap
  have HOC := hide hoc
  have hbq : ¬ c.b < h.bk := by omega
  clear hH1 hC1 hR1 hb1 hw1 hv hcv hr hin hcs hA hcap hoc
  go_enter Tryz.func44, Tryz.ntmps44
  go_upto_region 1 with fail
  rw [show ((w.alloc (.cells #[.int .i64 h.id, .int .i64 h.bk, .int .i64 h.tm.f, .int .i64 h.tm.t, .int .i64 h.tm.k, .int .i64 h.tm.v, .int .i64 h.tm.a, .int .i64 h.tm.z, .slice h.tm.A h.tm.l.length h.tm.cap, .slice h.A h.cs.length h.cap] 64)).alloc (.cells #[.int .i64 c.b, .int .i64 c.d, .int .i64 c.k, .int .i64 c.rk, .int .i64 c.rv, .int .i64 c.ra, .int .i64 c.rz, .slice c.A c.l.length c.cap, .int .i64 c.way] 77)).alloc (.cells #[.int .i64 0, .int .i64 0, .int .i64 0, .int .i64 0, .int .i64 0, .int .i64 0, .int .i64 0, .int .i64 0, .slice none 0 0, .slice none 0 0] 64) = w1 from HW.out]
  go_wp2_with fail
  refine HCR.out.mono ?_
  rintro e w2 ⟨rfl, h2⟩
  have HH2 := hide (HH.out.below h2 (by omega))
  have HC2 := hide (HC.out.below h2 (by omega))
  have HR2 := hide (HR.out.below h2 (by omega))
  have H2 := hide (chain H1.out h2)
  have HV2 := hide (HV1.out.below h2)
  have HCV2 := hide (HCV.out.below h2)
  clear h2 x0 x1 x2 x3 x4 x5 x6 x7 x8 x9 y0 y1 y2 y3 y4 y5 y6 y7 y8 HCR HV1 HCV
  have x2 := (hi_cells HH2.out).2.2.1
  have x3 := (hi_cells HH2.out).2.2.2.1
  have y1 := (chA_cells HC2.out).2.1
  go_wp2_with fail
  refine (HIN.out _).mono ?_
  rintro e w3 ⟨rfl, h3⟩
  have HH3 := hide (HH2.out.below h3 HH2.out.lt)
  have HC3 := hide (HC2.out.below h3 HC2.out.lt)
  have HR3 := hide (HR2.out.below h3 HR2.out.lt)
  have H3 := hide (chain H2.out h3)
  have HV3 := hide (HV2.out.below h3)
  have HCL := hide (cloneC_any c.A c.l.length c.cap c.l w3 (HCV2.out.below h3) hm.2)
  clear h3 x2 x3 y1 HIN
  have y0 := (chA_cells HC3.out).1
  have y7 := (chA_cells HC3.out).2.2.2.2.2.2.2.1
  go_wp2_with fail
  refine HCL.out.mono ?_
  rintro e w4 ⟨cA, cc, rfl, ho, h4⟩
  obtain ⟨w5, hw5⟩ : ∃ W, w4.setCell ⟨w.heap.size + 1, 7, none⟩ (.slice cA c.l.length cc) = W := ⟨_, rfl⟩
  have hH4 := HH3.out.below h4 HH3.out.lt
  have hC4 := HC3.out.below h4 HC3.out.lt
  have hR4 := HR3.out.below h4 HR3.out.lt
  have y7 := (chA_cells hC4).2.2.2.2.2.2.2.1
  have f7 := hC4.frozen 7
  have HH5 := hide (show Blk w5 w.heap.size 64 (hiC h) by rw [← hw5]; exact hH4.far (by simp) _)
  have HC5 := hide (show Blk w5 (w.heap.size + 1) 77 (chA c cA cc) by rw [← hw5]; exact hC4.set_ 7 _)
  have HR5 := hide (show Blk w5 (w.heap.size + 1 + 1) 64 hiZ by rw [← hw5]; exact hR4.far (by simp) _)
  have H5 := hide (show Below w.heap.size w w5 by rw [← hw5]; exact (chain H3.out h4).setCell (by simp) _)
  have H35 := hide (show ∀ b, b < w3.heap.size → b ≠ w.heap.size + 1 → w5.heap[b]? = w3.heap[b]? from fun b h1 h2 => by rw [← hw5]; exact (heap_setCell_other w4 ⟨w.heap.size + 1, 7, none⟩ b _ h2).trans (h4.block b h1))
  have HCV5 := hide (show OwnS w5 w3.heap.size 41 5 cA c.l.length cc (c.l.map encCv) by rw [← hw5]; exact ho.far (fun k hk => by have := (ho.lt k hk).1; have := HC3.out.lt; simp; omega) _)
  have hz5 : w3.heap.size ≤ w5.heap.size := by rw [← hw5]; simpa using h4.size
  have HW5 := hide hw5
  clear hH4 hC4 hR4 ho h4 hw5 y0 HCL
  go_upto_region 12 with fail
  rw [show w4.setCell ⟨w.heap.size + 1, 7, none⟩ (.slice cA c.l.length cc) = w5 from HW5.out]
  have hh5 := HH5.out
  have HOW := hide (ownT_any h.tm w5 (HV0.out.below H5.out).tm hm.1)
  obtain ⟨x0, x1, x2, x3, x4, x5, x6, x7, x8, x9⟩ := hi_cells HH5.out
  clear hh5 x0 x1 x9
  go_wp2_with fail
  refine HOW.out.mono ?_
  rintro e w6 ⟨tA, tc, rfl, hs6, hlo, h6⟩
  obtain ⟨w7, hw7⟩ : ∃ W, (((((((w6.setCell ⟨w.heap.size, 2, none⟩ (.int .i64 h.tm.f)).setCell ⟨w.heap.size, 3, none⟩ (.int .i64 h.tm.t)).setCell ⟨w.heap.size, 4, none⟩ (.int .i64 h.tm.k)).setCell ⟨w.heap.size, 5, none⟩ (.int .i64 h.tm.v)).setCell ⟨w.heap.size, 6, none⟩ (.int .i64 h.tm.a)).setCell ⟨w.heap.size, 7, none⟩ (.int .i64 h.tm.z)).setCell ⟨w.heap.size, 8, none⟩ (.slice tA h.tm.l.length tc)) = W := ⟨_, rfl⟩
  have hH6 := HH5.out.below h6 HH5.out.lt
  have hC6 := HC5.out.below h6 HC5.out.lt
  have hR6 := HR5.out.below h6 HR5.out.lt
  have HH7 := hide (show Blk w7 w.heap.size 64 (hiA h tA tc) by rw [← hw7]; simpa [hiC, hiA, HCS.out, HA0.out, HP0.out] using (((((((hH6.set_ 2 (.int .i64 h.tm.f)).set_ 3 (.int .i64 h.tm.t)).set_ 4 (.int .i64 h.tm.k)).set_ 5 (.int .i64 h.tm.v)).set_ 6 (.int .i64 h.tm.a)).set_ 7 (.int .i64 h.tm.z)).set_ 8 (.slice tA h.tm.l.length tc)))
  have HC7 := hide (show Blk w7 (w.heap.size + 1) 77 (chA c cA cc) by rw [← hw7]; exact (((((((hC6.far (p := ⟨w.heap.size, 2, none⟩) (by simp <;> omega) _).far (p := ⟨w.heap.size, 3, none⟩) (by simp <;> omega) _).far (p := ⟨w.heap.size, 4, none⟩) (by simp <;> omega) _).far (p := ⟨w.heap.size, 5, none⟩) (by simp <;> omega) _).far (p := ⟨w.heap.size, 6, none⟩) (by simp <;> omega) _).far (p := ⟨w.heap.size, 7, none⟩) (by simp <;> omega) _).far (p := ⟨w.heap.size, 8, none⟩) (by simp <;> omega) _))
  have HR7 := hide (show Blk w7 (w.heap.size + 1 + 1) 64 hiZ by rw [← hw7]; exact (((((((hR6.far (p := ⟨w.heap.size, 2, none⟩) (by simp <;> omega) _).far (p := ⟨w.heap.size, 3, none⟩) (by simp <;> omega) _).far (p := ⟨w.heap.size, 4, none⟩) (by simp <;> omega) _).far (p := ⟨w.heap.size, 5, none⟩) (by simp <;> omega) _).far (p := ⟨w.heap.size, 6, none⟩) (by simp <;> omega) _).far (p := ⟨w.heap.size, 7, none⟩) (by simp <;> omega) _).far (p := ⟨w.heap.size, 8, none⟩) (by simp <;> omega) _))
  have H7 := hide (show Below w.heap.size w w7 by rw [← hw7]; exact ((((((((chain H5.out h6).setCell (p := ⟨w.heap.size, 2, none⟩) (by simp <;> omega) _).setCell (p := ⟨w.heap.size, 3, none⟩) (by simp <;> omega) _).setCell (p := ⟨w.heap.size, 4, none⟩) (by simp <;> omega) _).setCell (p := ⟨w.heap.size, 5, none⟩) (by simp <;> omega) _).setCell (p := ⟨w.heap.size, 6, none⟩) (by simp <;> omega) _).setCell (p := ⟨w.heap.size, 7, none⟩) (by simp <;> omega) _).setCell (p := ⟨w.heap.size, 8, none⟩) (by simp <;> omega) _))
  have HTM7 := hide (show SV w7 5 tA h.tm.l.length tc (h.tm.l.map encCv) by rw [← hw7]; exact (((((((hs6.far (p := ⟨w.heap.size, 2, none⟩) (fun k hk => by have := hlo k hk; have := HH5.out.lt; simp; omega) _).far (p := ⟨w.heap.size, 3, none⟩) (fun k hk => by have := hlo k hk; have := HH5.out.lt; simp; omega) _).far (p := ⟨w.heap.size, 4, none⟩) (fun k hk => by have := hlo k hk; have := HH5.out.lt; simp; omega) _).far (p := ⟨w.heap.size, 5, none⟩) (fun k hk => by have := hlo k hk; have := HH5.out.lt; simp; omega) _).far (p := ⟨w.heap.size, 6, none⟩) (fun k hk => by have := hlo k hk; have := HH5.out.lt; simp; omega) _).far (p := ⟨w.heap.size, 7, none⟩) (fun k hk => by have := hlo k hk; have := HH5.out.lt; simp; omega) _).far (p := ⟨w.heap.size, 8, none⟩) (fun k hk => by have := hlo k hk; have := HH5.out.lt; simp; omega) _))
  have HCV7 := hide (show OwnS w7 w3.heap.size 41 5 cA c.l.length cc (c.l.map encCv) by rw [← hw7]; exact ((((((((HCV5.out.below h6).far (p := ⟨w.heap.size, 2, none⟩) (fun k hk => by have := (HCV5.out.lt k hk).1; have := HC3.out.lt; simp; omega) _).far (p := ⟨w.heap.size, 3, none⟩) (fun k hk => by have := (HCV5.out.lt k hk).1; have := HC3.out.lt; simp; omega) _).far (p := ⟨w.heap.size, 4, none⟩) (fun k hk => by have := (HCV5.out.lt k hk).1; have := HC3.out.lt; simp; omega) _).far (p := ⟨w.heap.size, 5, none⟩) (fun k hk => by have := (HCV5.out.lt k hk).1; have := HC3.out.lt; simp; omega) _).far (p := ⟨w.heap.size, 6, none⟩) (fun k hk => by have := (HCV5.out.lt k hk).1; have := HC3.out.lt; simp; omega) _).far (p := ⟨w.heap.size, 7, none⟩) (fun k hk => by have := (HCV5.out.lt k hk).1; have := HC3.out.lt; simp; omega) _).far (p := ⟨w.heap.size, 8, none⟩) (fun k hk => by have := (HCV5.out.lt k hk).1; have := HC3.out.lt; simp; omega) _))
  have HLO := hide hlo
  have hz7 : w5.heap.size ≤ w7.heap.size := by rw [← hw7]; simpa using h6.size
  have HW7 := hide hw7
  obtain ⟨x0, x1, x2, x3, x4, x5, x6, x7, x8, x9⟩ := hi_cells hH6
  have f2 := hH6.frozen 2
  have f3 := hH6.frozen 3
  have f4 := hH6.frozen 4
  have f5 := hH6.frozen 5
  have f6 := hH6.frozen 6
  have f7 := hH6.frozen 7
  have f8 := hH6.frozen 8
  clear hH6 hC6 hR6 hs6 hlo h6 hw7 x0 x1 x9 HOW
  go_upto_region 13 with fail
  rw [show (((((((w6.setCell ⟨w.heap.size, 2, none⟩ (.int .i64 h.tm.f)).setCell ⟨w.heap.size, 3, none⟩ (.int .i64 h.tm.t)).setCell ⟨w.heap.size, 4, none⟩ (.int .i64 h.tm.k)).setCell ⟨w.heap.size, 5, none⟩ (.int .i64 h.tm.v)).setCell ⟨w.heap.size, 6, none⟩ (.int .i64 h.tm.a)).setCell ⟨w.heap.size, 7, none⟩ (.int .i64 h.tm.z)).setCell ⟨w.heap.size, 8, none⟩ (.slice tA h.tm.l.length tc)) = w7 from HW7.out]
  clear x2 x3 x4 x5 x6 x7 x8
  have hS0 : (fun W => W.cell? ⟨w.heap.size, 9, none⟩ = some (.slice none 0 0) ∧ (W.cell? ⟨w.heap.size + 1, 0, none⟩ = some (.int .i64 c.b) ∧ W.cell? ⟨w.heap.size + 1, 1, none⟩ = some (.int .i64 c.d) ∧ W.cell? ⟨w.heap.size + 1, 2, none⟩ = some (.int .i64 c.k) ∧ W.cell? ⟨w.heap.size + 1, 3, none⟩ = some (.int .i64 c.rk) ∧ W.cell? ⟨w.heap.size + 1, 4, none⟩ = some (.int .i64 c.rv) ∧ W.cell? ⟨w.heap.size + 1, 5, none⟩ = some (.int .i64 c.ra) ∧ W.cell? ⟨w.heap.size + 1, 6, none⟩ = some (.int .i64 c.rz) ∧ W.cell? ⟨w.heap.size + 1, 7, none⟩ = some (.slice cA c.l.length cc) ∧ W.cell? ⟨w.heap.size + 1, 8, none⟩ = some (.int .i64 c.way))) w7.drew := ⟨HH7.out.drew.cell 9, chA_cells HC7.out.drew⟩
  simp only at hS0
  have hR0 : (0 : Int) ≤ 0 := by decide
  refine wp_region_T (fun W => W.cell? ⟨w.heap.size, 9, none⟩ = some (.slice none 0 0) ∧ (W.cell? ⟨w.heap.size + 1, 0, none⟩ = some (.int .i64 c.b) ∧ W.cell? ⟨w.heap.size + 1, 1, none⟩ = some (.int .i64 c.d) ∧ W.cell? ⟨w.heap.size + 1, 2, none⟩ = some (.int .i64 c.k) ∧ W.cell? ⟨w.heap.size + 1, 3, none⟩ = some (.int .i64 c.rk) ∧ W.cell? ⟨w.heap.size + 1, 4, none⟩ = some (.int .i64 c.rv) ∧ W.cell? ⟨w.heap.size + 1, 5, none⟩ = some (.int .i64 c.ra) ∧ W.cell? ⟨w.heap.size + 1, 6, none⟩ = some (.int .i64 c.rz) ∧ W.cell? ⟨w.heap.size + 1, 7, none⟩ = some (.slice cA c.l.length cc) ∧ W.cell? ⟨w.heap.size + 1, 8, none⟩ = some (.int .i64 c.way))) [0, 2, 3, 8, 9] rfl (by kernel_rfl) ?_
  refine wpAnyT_take0 (i := 0) (v := ?_) rfl (by kernel_rfl) (by kernel_rfl) (by kernel_rfl) (by kernel_rfl) (fun _ _ _ h => h) (Or.inl ⟨by rfl, ?_⟩) ?_
  rotate_left
  · intro W hSW
    go_simp
    try with_reducible rfl
  simp only [Act.put, List.setIfInBounds_toArray, List.set_cons_zero, List.set_cons_succ]
  refine wpAnyT_take0 (i := 2) (v := ?_) rfl (by kernel_rfl) (by kernel_rfl) (by kernel_rfl) (by kernel_rfl) (fun _ _ _ h => h) (Or.inl ⟨by rfl, ?_⟩) ?_
  rotate_left
  · intro W hSW
    go_simp
    try with_reducible rfl
  simp only [Act.put, List.setIfInBounds_toArray, List.set_cons_zero, List.set_cons_succ]
  refine wpAnyT_take0 (i := 3) (v := ?_) rfl (by kernel_rfl) (by kernel_rfl) (by kernel_rfl) (by kernel_rfl) (fun _ _ _ h => h) (Or.inl ⟨by rfl, ?_⟩) ?_
  rotate_left
  · intro W hSW
    go_simp
    try with_reducible rfl
  simp only [Act.put, List.setIfInBounds_toArray, List.set_cons_zero, List.set_cons_succ]
  refine wpAnyT_take (i := 1) (v := ?_) rfl (by kernel_rfl) (by kernel_rfl) (by kernel_rfl) (by kernel_rfl) (fun _ _ _ h => h) (Or.inl ⟨by rfl, ?_⟩) hS0 ?_
  rotate_left
  · intro W hSW
    obtain ⟨hs0, hs1⟩ := hSW
    go_simp
    try with_reducible rfl
  simp only [Act.put, List.setIfInBounds_toArray, List.set_cons_zero, List.set_cons_succ]
  refine wpAnyT_take (i := 5) (v := ?_) rfl (by kernel_rfl) (by kernel_rfl) (by kernel_rfl) (by kernel_rfl) (fun _ _ _ h => h) (Or.inl ⟨by rfl, ?_⟩) hS0 ?_
  rotate_left
  · intro W hSW
    obtain ⟨hs0, hs1⟩ := hSW
    go_simp
    try with_reducible rfl
  simp only [Act.put, List.setIfInBounds_toArray, List.set_cons_zero, List.set_cons_succ]
  refine wpAnyT_take (i := 4) (v := ?_) rfl (by kernel_rfl) (by kernel_rfl) (by kernel_rfl) (by kernel_rfl) (fun _ _ _ h => h) (Or.inl ⟨by rfl, ?_⟩) hS0 ?_
  rotate_left
  · intro W hSW
    obtain ⟨hs0, hs1⟩ := hSW
    go_simp
    try with_reducible rfl
  simp only [Act.put, List.setIfInBounds_toArray, List.set_cons_zero, List.set_cons_succ]
  refine wpAnyT_ready (rs := [6]) (by kernel_rfl) (by simp) ?_
  refine AllReadyT.cons rfl (fun K hK => ?_) ?_
  · go_simp
    refine hK.out _ _ (fun _ => ⟨(HH7.out.drew.alloc _).cell 9, chA_cells (HC7.out.drew.alloc _)⟩) ?_
    try simp only [Act.put, List.setIfInBounds_toArray, List.set_cons_zero, List.set_cons_succ]
    clear hK K
    refine wpAnyT_ready (rs := [7]) (by kernel_rfl) (by simp) ?_
    refine AllReadyT.cons rfl (fun K hK => ?_) ?_
    · refine step_app rfl (.tmp 58) (.tmp 60) 62 rfl elCh (B := w7.heap.size) (A := none) (rows := []) (A2 := some ⟨_, 0, none⟩) (news := [{ c with A := cA, cap := cc }].map encCh) rfl (OwnS.nil_ _ _ _ _) rfl rfl ?_ (okChs [{ c with A := cA, cap := cc }]) ?_ ?_ ?_ ?_
      · exact sl_of_blk (cs := chA c cA cc) (Blk.new _ _ _)
      · (simp only [maxLen]; omega)
      · omega
      · (first | omega | (simp; try omega))
      intro A8 c8 w8 ho8 hg8 ha8
      have hbe8 := (((Below.refl w7.heap.size w7).drew.alloc (by simp) (.cells (chA c cA cc) 77))).grown hg8 (by simp) (fun kk hk => by simp [blk] at hk)
      have HH8 := hide (HH7.out.below hbe8 HH7.out.lt)
      have HC8 := hide (HC7.out.below hbe8 HC7.out.lt)
      have HR8 := hide (HR7.out.below hbe8 HR7.out.lt)
      have H8 := hide (chain H7.out hbe8)
      have HTM8 := hide (HTM7.out.below hbe8)
      have HCV8 := hide (HCV7.out.below hbe8)
      have HO8 := hide ho8
      have lH8 := HH8.out.lt
      have lR8 := HR8.out.lt
      have f9 := HH8.out.frozen 9
      have lR1 := HR.out.lt
      have lR3 := HR3.out.lt
      have lR5 := HR5.out.lt
      have lR7 := HR7.out.lt
      clear ho8 hg8 ha8 hbe8 hS0
      refine hK.out _ _ (fun _ => ⟨HH8.out.cell 9, chA_cells HC8.out⟩) ?_
      try simp only [Act.put, List.setIfInBounds_toArray, List.set_cons_zero, List.set_cons_succ]
      clear hK K
      refine wpAnyT_take0 (i := 8) (v := ?_) rfl (by kernel_rfl) (by kernel_rfl) (by kernel_rfl) (by kernel_rfl) (fun _ _ _ h => h) (Or.inl ⟨by rfl, ?_⟩) ?_
      rotate_left
      · intro W hSW
        go_simp
        try with_reducible rfl
      simp only [Act.put, List.setIfInBounds_toArray, List.set_cons_zero, List.set_cons_succ]
      refine wpAnyT_ready (rs := [9]) (by kernel_rfl) (by simp) ?_
      refine AllReadyT.cons rfl (fun K hK => ?_) ?_
      · have x9 : w8.cell? ⟨w.heap.size, 9, none⟩ = some (.slice none 0 0) := HH8.out.cell 9
        go_simp
        refine hK.out _ _ (fun h => by cases h) ?_
        try simp only [Act.put, List.setIfInBounds_toArray, List.set_cons_zero, List.set_cons_succ]
        clear hK K x9
        refine wpAnyT_done (by kernel_rfl) ?_ _
        have x0 : w8.cell? ⟨w.heap.size, 0, none⟩ = some (.int .i64 h.id) := HH8.out.cell 0
        have x1 : w8.cell? ⟨w.heap.size, 1, none⟩ = some (.int .i64 h.bk) := HH8.out.cell 1
        have x2 : w8.cell? ⟨w.heap.size, 2, none⟩ = some (.int .i64 h.tm.f) := HH8.out.cell 2
        have x3 : w8.cell? ⟨w.heap.size, 3, none⟩ = some (.int .i64 h.tm.t) := HH8.out.cell 3
        have x4 : w8.cell? ⟨w.heap.size, 4, none⟩ = some (.int .i64 h.tm.k) := HH8.out.cell 4
        have x5 : w8.cell? ⟨w.heap.size, 5, none⟩ = some (.int .i64 h.tm.v) := HH8.out.cell 5
        have x6 : w8.cell? ⟨w.heap.size, 6, none⟩ = some (.int .i64 h.tm.a) := HH8.out.cell 6
        have x7 : w8.cell? ⟨w.heap.size, 7, none⟩ = some (.int .i64 h.tm.z) := HH8.out.cell 7
        have x8 : w8.cell? ⟨w.heap.size, 8, none⟩ = some (.slice tA h.tm.l.length tc) := HH8.out.cell 8
        have x9 : w8.cell? ⟨w.heap.size, 9, none⟩ = some (.slice none 0 0) := HH8.out.cell 9
        have r0 : w8.cell? ⟨w.heap.size + 1 + 1, 0, none⟩ = some (.int .i64 0) := HR8.out.cell 0
        have g0 := HR8.out.frozen 0
        have r1 : w8.cell? ⟨w.heap.size + 1 + 1, 1, none⟩ = some (.int .i64 0) := HR8.out.cell 1
        have g1 := HR8.out.frozen 1
        have r2 : w8.cell? ⟨w.heap.size + 1 + 1, 2, none⟩ = some (.int .i64 0) := HR8.out.cell 2
        have g2 := HR8.out.frozen 2
        have r3 : w8.cell? ⟨w.heap.size + 1 + 1, 3, none⟩ = some (.int .i64 0) := HR8.out.cell 3
        have g3 := HR8.out.frozen 3
        have r4 : w8.cell? ⟨w.heap.size + 1 + 1, 4, none⟩ = some (.int .i64 0) := HR8.out.cell 4
        have g4 := HR8.out.frozen 4
        have r5 : w8.cell? ⟨w.heap.size + 1 + 1, 5, none⟩ = some (.int .i64 0) := HR8.out.cell 5
        have g5 := HR8.out.frozen 5
        have r6 : w8.cell? ⟨w.heap.size + 1 + 1, 6, none⟩ = some (.int .i64 0) := HR8.out.cell 6
        have g6 := HR8.out.frozen 6
        have r7 : w8.cell? ⟨w.heap.size + 1 + 1, 7, none⟩ = some (.int .i64 0) := HR8.out.cell 7
        have g7 := HR8.out.frozen 7
        have r8 : w8.cell? ⟨w.heap.size + 1 + 1, 8, none⟩ = some (.slice none 0 0) := HR8.out.cell 8
        have g8 := HR8.out.frozen 8
        have r9 : w8.cell? ⟨w.heap.size + 1 + 1, 9, none⟩ = some (.slice none 0 0) := HR8.out.cell 9
        have g9 := HR8.out.frozen 9
        go_wp2_with fail
        clear x0 x1 x2 x3 x4 x5 x6 x7 x8 x9 r0 r1 r2 r3 r4 r5 r6 r7 r8 r9
        refine ret_row2 rfl rfl rfl rfl (hi_fill (show Blk _ (w.heap.size + 1 + 1) 64 #[.int .i64 0, .int .i64 0, .int .i64 0, .int .i64 0, .int .i64 0, .int .i64 0, .int .i64 0, .int .i64 0, .slice none 0 0, .slice none 0 0] from (HR8.out.far (p := ⟨w.heap.size, 9, none⟩) (by simp <;> omega) _))) Tryz.underlying64 rfl (by kernel_rfl) ⟨tA, cA, A8, tc, cc, c8, _, rfl, rfl, ⟨?_, HV0.out.ot, ?_, fun y hy => ?_, fun y hy => ?_⟩, (((((((((((H8.out.setCell (p := ⟨w.heap.size, 9, none⟩) (by simp <;> omega) _).setCell (p := ⟨w.heap.size + 1 + 1, 0, none⟩) (by simp <;> omega) _).setCell (p := ⟨w.heap.size + 1 + 1, 1, none⟩) (by simp <;> omega) _).setCell (p := ⟨w.heap.size + 1 + 1, 2, none⟩) (by simp <;> omega) _).setCell (p := ⟨w.heap.size + 1 + 1, 3, none⟩) (by simp <;> omega) _).setCell (p := ⟨w.heap.size + 1 + 1, 4, none⟩) (by simp <;> omega) _).setCell (p := ⟨w.heap.size + 1 + 1, 5, none⟩) (by simp <;> omega) _).setCell (p := ⟨w.heap.size + 1 + 1, 6, none⟩) (by simp <;> omega) _).setCell (p := ⟨w.heap.size + 1 + 1, 7, none⟩) (by simp <;> omega) _).setCell (p := ⟨w.heap.size + 1 + 1, 8, none⟩) (by simp <;> omega) _).setCell (p := ⟨w.heap.size + 1 + 1, 9, none⟩) (by simp <;> omega) _)⟩
        · exact (((((((((((HTM8.out.far (p := ⟨w.heap.size, 9, none⟩) (fun k hk => by have := HLO.out k hk; simp; omega) _).far (p := ⟨w.heap.size + 1 + 1, 0, none⟩) (fun k hk => by have := HLO.out k hk; simp; omega) _).far (p := ⟨w.heap.size + 1 + 1, 1, none⟩) (fun k hk => by have := HLO.out k hk; simp; omega) _).far (p := ⟨w.heap.size + 1 + 1, 2, none⟩) (fun k hk => by have := HLO.out k hk; simp; omega) _).far (p := ⟨w.heap.size + 1 + 1, 3, none⟩) (fun k hk => by have := HLO.out k hk; simp; omega) _).far (p := ⟨w.heap.size + 1 + 1, 4, none⟩) (fun k hk => by have := HLO.out k hk; simp; omega) _).far (p := ⟨w.heap.size + 1 + 1, 5, none⟩) (fun k hk => by have := HLO.out k hk; simp; omega) _).far (p := ⟨w.heap.size + 1 + 1, 6, none⟩) (fun k hk => by have := HLO.out k hk; simp; omega) _).far (p := ⟨w.heap.size + 1 + 1, 7, none⟩) (fun k hk => by have := HLO.out k hk; simp; omega) _).far (p := ⟨w.heap.size + 1 + 1, 8, none⟩) (fun k hk => by have := HLO.out k hk; simp; omega) _).far (p := ⟨w.heap.size + 1 + 1, 9, none⟩) (fun k hk => by have := HLO.out k hk; simp; omega) _)
        · have := HO8.out.sv
          rw [Nat.zero_add, List.nil_append] at this
          exact (((((((((((this.far (p := ⟨w.heap.size, 9, none⟩) (fun k hk => by have := (HO8.out.lt k hk).1; simp; omega) _).far (p := ⟨w.heap.size + 1 + 1, 0, none⟩) (fun k hk => by have := (HO8.out.lt k hk).1; simp; omega) _).far (p := ⟨w.heap.size + 1 + 1, 1, none⟩) (fun k hk => by have := (HO8.out.lt k hk).1; simp; omega) _).far (p := ⟨w.heap.size + 1 + 1, 2, none⟩) (fun k hk => by have := (HO8.out.lt k hk).1; simp; omega) _).far (p := ⟨w.heap.size + 1 + 1, 3, none⟩) (fun k hk => by have := (HO8.out.lt k hk).1; simp; omega) _).far (p := ⟨w.heap.size + 1 + 1, 4, none⟩) (fun k hk => by have := (HO8.out.lt k hk).1; simp; omega) _).far (p := ⟨w.heap.size + 1 + 1, 5, none⟩) (fun k hk => by have := (HO8.out.lt k hk).1; simp; omega) _).far (p := ⟨w.heap.size + 1 + 1, 6, none⟩) (fun k hk => by have := (HO8.out.lt k hk).1; simp; omega) _).far (p := ⟨w.heap.size + 1 + 1, 7, none⟩) (fun k hk => by have := (HO8.out.lt k hk).1; simp; omega) _).far (p := ⟨w.heap.size + 1 + 1, 8, none⟩) (fun k hk => by have := (HO8.out.lt k hk).1; simp; omega) _).far (p := ⟨w.heap.size + 1 + 1, 9, none⟩) (fun k hk => by have := (HO8.out.lt k hk).1; simp; omega) _)
        · rw [List.mem_singleton] at hy
          subst hy
          exact (((((((((((HCV8.out.sv.far (p := ⟨w.heap.size, 9, none⟩) (fun k hk => by have := (HCV8.out.lt k hk).1; simp; omega) _).far (p := ⟨w.heap.size + 1 + 1, 0, none⟩) (fun k hk => by have := (HCV8.out.lt k hk).1; simp; omega) _).far (p := ⟨w.heap.size + 1 + 1, 1, none⟩) (fun k hk => by have := (HCV8.out.lt k hk).1; simp; omega) _).far (p := ⟨w.heap.size + 1 + 1, 2, none⟩) (fun k hk => by have := (HCV8.out.lt k hk).1; simp; omega) _).far (p := ⟨w.heap.size + 1 + 1, 3, none⟩) (fun k hk => by have := (HCV8.out.lt k hk).1; simp; omega) _).far (p := ⟨w.heap.size + 1 + 1, 4, none⟩) (fun k hk => by have := (HCV8.out.lt k hk).1; simp; omega) _).far (p := ⟨w.heap.size + 1 + 1, 5, none⟩) (fun k hk => by have := (HCV8.out.lt k hk).1; simp; omega) _).far (p := ⟨w.heap.size + 1 + 1, 6, none⟩) (fun k hk => by have := (HCV8.out.lt k hk).1; simp; omega) _).far (p := ⟨w.heap.size + 1 + 1, 7, none⟩) (fun k hk => by have := (HCV8.out.lt k hk).1; simp; omega) _).far (p := ⟨w.heap.size + 1 + 1, 8, none⟩) (fun k hk => by have := (HCV8.out.lt k hk).1; simp; omega) _).far (p := ⟨w.heap.size + 1 + 1, 9, none⟩) (fun k hk => by have := (HCV8.out.lt k hk).1; simp; omega) _)
        · rw [List.mem_singleton] at hy
          subst hy
          exact HOC.out
      exact AllReadyT.nil
    exact AllReadyT.nil
  exact AllReadyT.nil
end Go.Proofs.YtmfohnchnbgbaaaGreatDoor

/- What is due with a change less, or more; histories of one change at most. -/
namespace Go.Proofs.YtmfohnchnbgbaaaGreatDoor
open Go.RowKit

theorem ordd_small (h : Hi) (w : World) (hv : HV w h) (hn : h.cs.length ≤ 1) : Ordd w h h.cs := by
  refine ⟨List.range h.cs.length, by simp; omega, fun j o ho => ?_, by simp, fun W hW => ?_⟩
  · obtain ⟨hj, rfl⟩ := List.getElem?_eq_some_iff.1 ho
    simp only [List.length_range] at hj
    simp only [List.getElem_range]
    exact ⟨h.cs[j], List.getElem?_eq_getElem hj, List.getElem?_eq_getElem hj⟩
  · exact order_small h W hn hv.cs.le
/-- What is due of such a history, where none was cancelled short. -/
def due0 (h : Hi) (M : List Ver) : Int × Int := dueQ (0, slE h h.cs M) (slL h h.cs M)
theorem due0_any (h : Hi) (A : Option Addr) (cap n : Nat) (M : List Vw) (w : World) (hv : HV w h) (hT : TV w A n cap M) (hm : ∀ x ∈ M, LenV x) (hn : h.cs.length ≤ 1) (hsh : shortC h.cs = false) :
    Calls Tryz.prog 17 #[.agg #[.int .i64 h.id, .int .i64 h.bk, .int .i64 h.tm.f, .int .i64 h.tm.t, .int .i64 h.tm.k, .int .i64 h.tm.v, .int .i64 h.tm.a, .int .i64 h.tm.z, .slice h.tm.A h.tm.l.length h.tm.cap, .slice h.A h.cs.length h.cap], .agg #[.slice A n cap]] w fun e w' => e = .returned (.tuple #[.int .i64 (due0 h (allV M)).1, .int .i64 (due0 h (allV M)).2]) ∧ Below w.heap.size w w' :=
  due_any h h.cs A cap n M (0, slE h h.cs (allV M)) w hv hT hm (fun _ => ordd_small h w hv hn)
    (fun W hW => kept0_any h h.cs A cap n M W (hv.below hW) (hT.below hW) hm (fun _ => ordd_small h W (hv.below hW) hn) hsh) ⟨Int.le_refl _, by simp⟩ (fun h => h)
set_option maxRecDepth 100000 in
set_option maxHeartbeats 4000000 in
theorem given0_any (h : Hi) (c : Ch) (A : Option Addr) (cap n : Nat) (M : List Vw) (a b : Int) (w : World) (hv : HV w h) (hT : TV w A n cap M) (hM : ∀ x ∈ M, LenV x) (hcs : h.cs = []) (hA : h.A = none) (hcap : h.cap = 0) (hcv : SV w 5 c.A c.l.length c.cap (c.l.map encCv)) (hoc : okCh c)
    (hr : changeB c = true) (hin : inB h.tm.f h.tm.t c.d = true) (hb : h.bk ≤ c.b) (hm : h.tm.l.length ≤ 1000000 ∧ c.l.length ≤ 1000000) (ha : due0 h (allV M) = (a, 0))
    (hx : ∀ (tA cA A : Option Addr) (tc cc cap : Nat), shortC [{ c with A := cA, cap := cc }] = false ∧ due0 { h with tm := { h.tm with A := tA, cap := tc }, A := A, cs := [{ c with A := cA, cap := cc }], cap := cap } (allV M) = (b, 0)) (hab : 0 ≤ a ∧ a ≤ 4000000000000000000 ∧ 0 ≤ b ∧ b ≤ 4000000000000000000) :
    Calls Tryz.prog 20 #[.agg #[.int .i64 h.id, .int .i64 h.bk, .int .i64 h.tm.f, .int .i64 h.tm.t, .int .i64 h.tm.k, .int .i64 h.tm.v, .int .i64 h.tm.a, .int .i64 h.tm.z, .slice h.tm.A h.tm.l.length h.tm.cap, .slice h.A h.cs.length h.cap], .agg #[.slice A n cap], .agg #[.int .i64 c.b, .int .i64 c.d, .int .i64 c.k, .int .i64 c.rk, .int .i64 c.rv, .int .i64 c.ra, .int .i64 c.rz, .slice c.A c.l.length c.cap, .int .i64 c.way]] w fun e w' => e = .returned (.tuple #[.int .i64 (a - b), .int .i64 0]) ∧ Below w.heap.size w w' := by
  obtain rfl : M.length = n := hT.len
  obtain ⟨w1, hw1⟩ : ∃ W, ((w.alloc (.cells (hiC h) 64)).alloc (.cells #[.slice A M.length cap] 67)).alloc (.cells (chA c c.A c.cap) 77) = W := ⟨_, rfl⟩
  have hH1 : Blk w1 w.heap.size 64 (hiC h) := by rw [← hw1]; exact ((Blk.new _ _ _).alloc _).alloc _
  have hS1 : Blk w1 (w.heap.size + 1) 67 #[.slice A M.length cap] := by rw [← hw1]; exact (Blk.new' (by simp)).alloc _
  have hC1 : Blk w1 (w.heap.size + 1 + 1) 77 (chA c c.A c.cap) := by rw [← hw1]; exact Blk.new' (by simp)
  have hb1 : Below w.heap.size w w1 := by rw [← hw1]; exact (((Below.refl _ _).alloc (Nat.le_refl _) _).alloc (by simp) _).alloc (by simp; omega) _
  obtain ⟨x0, x1, x2, x3, x4, x5, x6, x7, x8, x9⟩ := hi_cells hH1
  obtain ⟨y0, y1, y2, y3, y4, y5, y6, y7, y8⟩ := chA_cells hC1
  have hz1 := hC1.lt
  have H1 := hide hb1
  have HH := hide hH1
  have HS := hide hS1
  have HV1 := hide (hv.below hb1)
  have HT1 := hide (hT.below hb1)
  have HM := hide hM
  have HX := hide hx
  have HA := hide ha
  have HPU := hide (put0_any h c w1 (hv.below hb1) hcs hA hcap (hcv.below hb1) hoc hr hin hb hm)
  have HN := hide (show h.cs.length ≤ 1 ∧ shortC h.cs = false by rw [hcs]; exact ⟨by simp, rfl⟩)
  have HW := hide hw1
  clear hH1 hS1 hC1 hb1 hw1 hv hT hM hx ha hcs hA hcap hcv hoc hr hin hb hm
  go_enter Tryz.func20, Tryz.ntmps20
  go_upto_region 1 with fail
  rw [show ((w.alloc (.cells #[.int .i64 h.id, .int .i64 h.bk, .int .i64 h.tm.f, .int .i64 h.tm.t, .int .i64 h.tm.k, .int .i64 h.tm.v, .int .i64 h.tm.a, .int .i64 h.tm.z, .slice h.tm.A h.tm.l.length h.tm.cap, .slice h.A h.cs.length h.cap] 64)).alloc (.cells #[.slice A M.length cap] 67)).alloc (.cells #[.int .i64 c.b, .int .i64 c.d, .int .i64 c.k, .int .i64 c.rk, .int .i64 c.rv, .int .i64 c.ra, .int .i64 c.rz, .slice c.A c.l.length c.cap, .int .i64 c.way] 77) = w1 from HW.out]
  go_wp2_with fail
  refine HPU.out.mono ?_
  rintro e w2 ⟨tA, cA, A8, tc, cc, c8, x, hx, rfl, hv2, h2⟩
  have hxx := HX.out tA cA A8 tc cc c8
  rw [← hx] at hxx
  have hxn : x.cs.length ≤ 1 ∧ shortC x.cs = false := by rw [hx]; exact ⟨by simp, hxx.1⟩
  have HXN := hide hxn
  have HXX := hide hxx.2
  have HVX := hide hv2
  have HH2 := hide (HH.out.below h2 (by omega))
  have HS2 := hide (HS.out.below h2 (by omega))
  have H2 := hide (chain H1.out h2)
  have HV2 := hide (HV1.out.below h2)
  have HT2 := hide (HT1.out.below h2)
  obtain ⟨w3, hw3⟩ : ∃ W, w2.alloc (.cells (hiC x) 64) = W := ⟨_, rfl⟩
  have hb3 : Below w2.heap.size w2 w3 := by rw [← hw3]; exact (Below.refl _ _).alloc (Nat.le_refl _) _
  have HX3 := hide (show Blk w3 w2.heap.size 64 (hiC x) by rw [← hw3]; exact Blk.new _ _ _)
  have HH3 := hide (HH2.out.below hb3 HH2.out.lt)
  have HS3 := hide (HS2.out.below hb3 HS2.out.lt)
  have H3 := hide (chain H2.out hb3)
  have HT3 := hide (HT2.out.below hb3)
  have HVX3 := hide (HVX.out.below hb3)
  have HD := hide (due0_any h A cap M.length M w3 (HV2.out.below hb3) HT3.out HM.out HN.out.1 HN.out.2)
  rw [HA.out] at HD
  have hz2 : w.heap.size + 1 < w2.heap.size := HS2.out.lt
  have HW3 := hide hw3
  clear hw3 hb3 hx hxx hxn hv2 h2 x0 x1 x2 x3 x4 x5 x6 x7 x8 x9 y0 y1 y2 y3 y4 y5 y6 y7 y8
  go_upto_region 2 with fail
  rw [show w2.alloc (.cells #[.int .i64 x.id, .int .i64 x.bk, .int .i64 x.tm.f, .int .i64 x.tm.t, .int .i64 x.tm.k, .int .i64 x.tm.v, .int .i64 x.tm.a, .int .i64 x.tm.z, .slice x.tm.A x.tm.l.length x.tm.cap, .slice x.A x.cs.length x.cap] 64) = w3 from HW3.out]
  obtain ⟨X, hX⟩ : ∃ X, w2.heap.size = X := ⟨_, rfl⟩
  rw [hX] at HX3 hz2 ⊢
  clear hX HW3
  obtain ⟨x0, x1, x2, x3, x4, x5, x6, x7, x8, x9⟩ := hi_cells HH3.out
  have z0 := HS3.out.cell 0
  simp at z0
  go_wp2_with fail
  refine HD.out.mono ?_
  rintro e w4 ⟨rfl, h4⟩
  have HX4 := hide (HX3.out.below h4 HX3.out.lt)
  have HS4 := hide (HS3.out.below h4 HS3.out.lt)
  have H4 := hide (chain H3.out h4)
  have HD2 := hide (due0_any x A cap M.length M w4 (HVX3.out.below h4) (HT3.out.below h4) HM.out HXN.out.1 HXN.out.2)
  rw [HXX.out] at HD2
  clear h4 x0 x1 x2 x3 x4 x5 x6 x7 x8 x9 z0
  obtain ⟨x0, x1, x2, x3, x4, x5, x6, x7, x8, x9⟩ := hi_cells HX4.out
  have z0 := HS4.out.cell 0
  simp at z0
  go_wp2_with fail
  refine HD2.out.mono ?_
  rintro e w5 ⟨rfl, h5⟩
  go_wp2_with fail
  go_ret2
  exact ⟨rfl, chain H4.out h5⟩
end Go.Proofs.YtmfohnchnbgbaaaGreatDoor
