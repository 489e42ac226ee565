/- Part 12 of the proof. -/
import Derived.Deep.RegionHeld3
import Derived.Test.YtmfohnchnbgbaaaGreatTcM11
/- A drawn region whose last operations write what its first ones read. -/
namespace Go.Proofs.YtmfohnchnbgbaaaGreat
section
variable {P : Program} {ops : Array Oper} {Q : Exit → Act → World → Prop} {md : Region.Mode} {S : World → Prop} {ks : List Nat}

/-- Whatever order is picked; behind each operation that is not among 'ks' the condition holds. -/
def wpAnyT (P : Program) (md : Region.Mode) (ops : Array Oper) (Q : Exit → Act → World → Prop) (S : World → Prop) (ks : List Nat) : Nat → Array Bool → Act → World → Prop
  | 0, L, a, w => Region.ready md ops L = [] ∧ Q .normal a w
  | g + 1, L, a, w => (Region.ready md ops L = [] → Q .normal a w) ∧
    ∀ i ∈ Region.ready md ops L, wpOp P ops Q i (fun a' w' => (ks.contains i = false → S w') ∧ wpAnyT P md ops Q S ks g (L.setIfInBounds i true) a' w') a w
theorem wpAny_of_T : ∀ (g : Nat) (L : Array Bool) (a : Act) (w : World), wpAnyT P md ops Q S ks g L a w → wpAny P md ops Q g L a w
  | 0, _, _, _, h => h
  | g + 1, _, _, _, h => ⟨h.1, fun i hi => wpOp_mono (fun a' w' h' => wpAny_of_T g _ a' w' h'.2) (h.2 i hi)⟩
/-- Those of 'ks' that have not come up wait for number i. -/
def waits (md : Region.Mode) (ops : Array Oper) (ks : List Nat) (L : Array Bool) (i : Nat) : Bool :=
  ks.all fun j => L.getD j true || (match ops[j]? with | some o => o.after.any (fun e => Region.binds md e && e.on == i) | none => true)
theorem waits_spec {i j : Nat} {L : Array Bool} {oj : Oper} (h : waits md ops ks L i = true) (hj : ops[j]? = some oj) (hm : ks.contains j = true) (hL : L.getD j true = false) : ∃ e ∈ oj.after, Region.binds md e = true ∧ e.on = i := by
  have h1 := List.all_eq_true.1 h j (by simpa using hm)
  rw [hj, hL, Bool.false_or] at h1
  obtain ⟨e, he, h3⟩ := Array.any_eq_true'.1 h1
  rw [Bool.and_eq_true] at h3
  exact ⟨e, he, h3.1, by simpa using h3.2⟩
theorem waits_set {i j : Nat} {L : Array Bool} (h : waits md ops ks L i = true) : waits md ops ks (L.setIfInBounds j true) i = true := by
  refine List.all_eq_true.2 fun k hk => ?_
  have h1 := List.all_eq_true.1 h k hk
  by_cases hjk : j = k
  · subst hjk
    have : (L.setIfInBounds j true).getD j true = true := by
      rw [Array.getD_eq_getD_getElem?]
      by_cases hs : j < L.size
      · simp [hs]
      · simp [hs]
    rw [this, Bool.true_or]
  · rw [getD_set_ne true hjk]; exact h1
theorem hnot_of {i : Nat} {L : Array Bool} {oj : Oper} (hr : i ∈ Region.ready md ops L) (hall : ∀ e ∈ oj.after, Region.binds md e = true → L.getD e.on false = true) : ∀ e ∈ oj.after, Region.binds md e = true → e.on ≠ i := fun e he hb heq => by
  have k1 := hall e he hb
  have k0 := (mem_ready.1 hr).1
  rw [heq] at k1
  rcases Nat.lt_or_ge i L.size with h' | h'
  · simp [h'] at k0 k1; rw [k0] at k1; cases k1
  · simp [Array.getElem?_eq_none h'] at k1
theorem wpAnyT_first {i : Nat} {oi : Oper} {v : Value} {T : World → Prop} (hi : ops[i]? = some oi) (hsel : ∀ (j : Nat) (o : Oper) cs b, ops[j]? = some o → o.op ≠ .select cs b)
    (hQ : ∀ c a w, Q (.panic c) (a.put oi.dst v) w → Q (.panic c) a w) (hST : ∀ w, S w → T w) (hki : ks.contains i = true ∧ (∀ w, T w) ∨ ∀ w, T w → S w) :
    ∀ (g : Nat) (L : Array Bool) (a : Act) (w : World), ((∀ w, T w) ∨ waits md ops ks L i = true) →
      (∀ j oj, ops[j]? = some oj → j ≠ i → L.getD j true = false → (∀ e ∈ oj.after, Region.binds md e = true → e.on ≠ i) → oi.apart ops oj = true) →
      i ∈ Region.ready md ops L → YieldsIf P ops T oi v a → T w → wpAnyT P md ops Q S ks g (L.setIfInBounds i true) (a.put oi.dst v) w → wpAnyT P md ops Q S ks (g + 1) L a w := by
  have hSw : ∀ w, T w → ks.contains i = false → S w := fun w hT hc => by
    rcases hki with ⟨h, -⟩ | h
    · rw [h] at hc; cases hc
    · exact h w hT
  intro g
  induction g with
  | zero =>
    intro L a w _ _ hr hy hT H
    refine ⟨fun h => (by rw [h] at hr; cases hr), fun j hj => ?_⟩
    by_cases hji : j = i
    · subst hji; exact hy.wpOp hi hT ⟨hSw w hT, H⟩
    · have := ready_mono hj hji
      rw [H.1] at this
      cases this
  | succ g ih =>
    intro L a w hwt hfree hr hy hT H
    refine ⟨fun h => (by rw [h] at hr; cases hr), fun j hj => ?_⟩
    by_cases hji : j = i
    · subst hji; exact hy.wpOp hi hT ⟨hSw w hT, H⟩
    · have h1 := H.2 j (ready_mono hj hji)
      obtain ⟨hjun, oj, hoj, hall⟩ := mem_ready.1 hj
      have hnot := hnot_of hr hall
      have hTj : ∀ w', (ks.contains j = false → S w') → T w' := fun w' hS => by
        rcases hwt with h | h
        · exact h w'
        · cases hc : ks.contains j with
          | false => exact hST w' (hS hc)
          | true =>
            obtain ⟨e, he, hb, heq⟩ := waits_spec h hoj hc hjun
            exact absurd heq (hnot e he hb)
      have h2 := wpOp_putIf hoj (hfree j oj hoj hji hjun hnot) (fun cs b => hsel i oi cs b hi) (fun cs b => hsel j oj cs b hoj) hQ hy h1
      have hfree' : ∀ k ok, ops[k]? = some ok → k ≠ i → (L.setIfInBounds j true).getD k true = false → (∀ e ∈ ok.after, Region.binds md e = true → e.on ≠ i) → oi.apart ops ok = true := fun k ok hk hki hun hno => by
        refine hfree k ok hk hki ?_ hno
        by_cases hjk : j = k
        · subst hjk; exact hjun
        · rw [getD_set_ne true hjk] at hun; exact hun
      refine wpOp_mono (fun a' w' h3 => ⟨h3.2.1, ih (L.setIfInBounds j true) a' w' (hwt.imp id waits_set) hfree' (ready_mono hr (Ne.symm hji)) h3.1 (hTj w' h3.2.1) ?_⟩) h2
      rw [Array.setIfInBounds_comm _ _ hji]
      exact h3.2.2
/-- What reads under the condition is taken first. -/
theorem wpAnyT_take {i : Nat} {oi : Oper} {v : Value} {g : Nat} {L : Array Bool} {a : Act} {w : World} (hi : ops[i]? = some oi) (hs : Region.noSelect ops = true) (hf : Region.free md ops L i = true)
    (hr : (Region.ready md ops L).contains i = true) (hwt : waits md ops ks L i = true) (hQ : ∀ c a w, Q (.panic c) (a.put oi.dst v) w → Q (.panic c) a w) (hy : YieldsIf P ops S oi v a) (hS : S w)
    (h : wpAnyT P md ops Q S ks g (L.setIfInBounds i true) (a.put oi.dst v) w) : wpAnyT P md ops Q S ks (g + 1) L a w :=
  wpAnyT_first (T := S) hi (Region.noSelect_spec hs) hQ (fun _ h => h) (.inr fun _ h => h) g L a w (.inr hwt) (Region.free_spec hi hf) (by simpa using hr) hy hS h
/-- What yields in whatever world, and is among 'ks'. -/
theorem wpAnyT_take0 {i : Nat} {oi : Oper} {v : Value} {g : Nat} {L : Array Bool} {a : Act} {w : World} (hi : ops[i]? = some oi) (hs : Region.noSelect ops = true) (hf : Region.free md ops L i = true)
    (hr : (Region.ready md ops L).contains i = true) (hk : ks.contains i = true) (hQ : ∀ c a w, Q (.panic c) (a.put oi.dst v) w → Q (.panic c) a w) (hy : YieldsIf P ops (fun _ => True) oi v a)
    (h : wpAnyT P md ops Q S ks g (L.setIfInBounds i true) (a.put oi.dst v) w) : wpAnyT P md ops Q S ks (g + 1) L a w :=
  wpAnyT_first (T := fun _ => True) hi (Region.noSelect_spec hs) hQ (fun _ _ => trivial) (.inl ⟨hk, fun _ => trivial⟩) g L a w (.inl fun _ => trivial) (Region.free_spec hi hf) (by simpa using hr) hy trivial h
theorem wpAnyT_done {L : Array Bool} {a : Act} {w : World} (hr : Region.ready md ops L = []) (h : Q .normal a w) : ∀ g, wpAnyT P md ops Q S ks g L a w
  | 0 => ⟨hr, h⟩
  | _ + 1 => ⟨fun _ => h, by rw [hr]; simp⟩
def AllReadyT (P : Program) (md : Region.Mode) (ops : Array Oper) (Q : Exit → Act → World → Prop) (S : World → Prop) (ks : List Nat) (g : Nat) (L : Array Bool) (a : Act) (w : World) (rs : List Nat) : Prop :=
  ∀ i ∈ rs, wpOp P ops Q i (fun a' w' => (ks.contains i = false → S w') ∧ wpAnyT P md ops Q S ks g (L.setIfInBounds i true) a' w') a w
theorem AllReadyT.nil {g : Nat} {L : Array Bool} {a : Act} {w : World} : AllReadyT P md ops Q S ks g L a w [] := fun _ h => by cases h
theorem AllReadyT.cons {g : Nat} {L : Array Bool} {a : Act} {w : World} {i : Nat} {o : Oper} {rs : List Nat} (ho : ops[i]? = some o)
    (h : ∀ K' : Act → World → Prop, Shut (∀ a w, (ks.contains i = false → S w) → wpAnyT P md ops Q S ks g (L.setIfInBounds i true) a w → K' a w) → if Region.wanted o (yielded ops a.tmps) = true then Oper.wp P o a w K' Q else K' (a.put o.dst undef) w)
    (hs : AllReadyT P md ops Q S ks g L a w rs) : AllReadyT P md ops Q S ks g L a w (i :: rs) := fun j hj => by
  rcases List.mem_cons.1 hj with rfl | hj
  · exact wpOp_step ho (fun K' hK => h K' (fun a w hS hW => hK a w ⟨hS, hW⟩))
  · exact hs j hj
theorem wpAnyT_ready {rs : List Nat} {g : Nat} {L : Array Bool} {a : Act} {w : World} (hr : Region.ready md ops L = rs) (hne : rs ≠ []) (h : AllReadyT P md ops Q S ks g L a w rs) : wpAnyT P md ops Q S ks (g + 1) L a w :=
  ⟨fun h0 => absurd (hr ▸ h0) hne, hr ▸ h⟩
theorem wp_region_T {id n : Nat} {a : Act} {w : World} (S : World → Prop) (ks : List Nat) (hn : ops.size = n) (hm : P.follows .mixedOrders = true)
    (h : wpAnyT P .any ops Q S ks n (Array.replicate n false) a w.drew) : (Code.region id ops true).wp P Q a w := by
  subst hn
  exact wp_region_any hm (wpAny_of_T _ _ _ _ h)
end
end Go.Proofs.YtmfohnchnbgbaaaGreat
