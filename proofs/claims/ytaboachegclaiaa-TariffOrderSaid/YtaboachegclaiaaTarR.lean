/- Plain laws of tariffs: what is told of a day; a version put in. -/
import Derived.Test.YtaboachegclaiaaTarQ
namespace Go.Proofs.Ytaboachegclaiaa

def Rises (l : List Ver) : Prop := l.Pairwise fun a b => a.f < b.f
theorem rises_pair : ∀ {l : List Ver} {last : Int}, risesV last l = true → Rises l
  | [], _, _ => List.Pairwise.nil
  | a :: r, last, h => by
    rw [risesV] at h
    split at h
    · cases h
    · exact List.Pairwise.cons (fun b hb => ((rises_facts h).2 b hb).1) (rises_pair h)
theorem right_rises {l : List Ver} (h : rightT l = true) : Rises l := by
  rw [rightT, Bool.and_eq_true] at h
  exact rises_pair h.2
theorem right_pos {l : List Ver} (h : rightT l = true) : ∀ y ∈ l, 1 ≤ y.f ∧ versionB y = true := fun y hy => by
  rw [rightT, Bool.and_eq_true] at h
  have := (rises_facts h.2).2 y hy
  exact ⟨by omega, this.2⟩
theorem right_len {l : List Ver} (h : rightT l = true) : l.length ≤ 100 := by
  rw [rightT, Bool.and_eq_true, decide_eq_true_eq] at h
  exact h.1

theorem atL_nil (d : Int) : atL [] d = none := rfl
theorem atL_cons (a : Ver) (r : List Ver) (d : Int) : atL (a :: r) d = if a.f ≤ d then some ((atL r d).getD a) else atL r d := by
  unfold atL
  by_cases h : a.f ≤ d
  · rw [if_pos h, List.filter_cons_of_pos (by simpa using h), List.getLast?_cons]
  · rw [if_neg h, List.filter_cons_of_neg (by simpa using h)]
theorem atL_none_iff {l : List Ver} {d : Int} : atL l d = none ↔ ∀ y ∈ l, d < y.f := by
  unfold atL
  rw [List.getLast?_eq_none_iff, List.filter_eq_nil_iff]
  constructor
  · intro h y hy; have := h y hy; simp at this; exact this
  · intro h y hy; have := h y hy; simp; exact this
/-- What is told of a day is the greatest one that is not behind it. -/
theorem atL_some_iff : ∀ {l : List Ver} {d : Int} {x : Ver}, Rises l → (atL l d = some x ↔ x ∈ l ∧ x.f ≤ d ∧ ∀ y ∈ l, y.f ≤ d → y.f ≤ x.f)
  | [], d, x, _ => by simp [atL_nil]
  | a :: r, d, x, h => by
    have hr := List.Pairwise.of_cons h
    have ha : ∀ b ∈ r, a.f < b.f := fun b hb => List.rel_of_pairwise_cons h hb
    rw [atL_cons]
    have ih := fun (x : Ver) => atL_some_iff (l := r) (d := d) (x := x) hr
    by_cases h1 : a.f ≤ d
    · rw [if_pos h1]
      cases h2 : atL r d with
      | none =>
        have h3 := atL_none_iff.1 h2
        simp only [Option.getD_none, Option.some.injEq]
        constructor
        · rintro rfl
          refine ⟨by simp, h1, fun y hy hyd => ?_⟩
          rcases List.mem_cons.1 hy with h4 | h4
          · subst h4; omega
          · have := h3 y h4; omega
        · rintro ⟨h4, h5, _⟩
          rcases List.mem_cons.1 h4 with h6 | h6
          · exact h6.symm
          · have := h3 x h6; omega
      | some b =>
        obtain ⟨b1, b2, b3⟩ := (ih b).1 h2
        simp only [Option.getD_some, Option.some.injEq]
        constructor
        · rintro rfl
          refine ⟨by simp [b1], b2, fun y hy hyd => ?_⟩
          rcases List.mem_cons.1 hy with h4 | h4
          · subst h4; have := ha _ b1; omega
          · exact b3 y h4 hyd
        · rintro ⟨h4, h5, h6⟩
          rcases List.mem_cons.1 h4 with h7 | h7
          · subst h7
            have := h6 b (by simp [b1]) b2
            have := ha _ b1
            omega
          · have h8 := (ih x).2 ⟨h7, h5, fun y hy hyd => h6 y (by simp [hy]) hyd⟩
            rw [h2] at h8
            cases h8; rfl
    · rw [if_neg h1, ih x]
      constructor
      · rintro ⟨h2, h3, h4⟩
        refine ⟨by simp [h2], h3, fun y hy hyd => ?_⟩
        rcases List.mem_cons.1 hy with h5 | h5
        · subst h5; omega
        · exact h4 y h5 hyd
      · rintro ⟨h2, h3, h4⟩
        rcases List.mem_cons.1 h2 with h5 | h5
        · subst h5; omega
        · exact ⟨h5, h3, fun y hy hyd => h4 y (by simp [hy]) hyd⟩

theorem mem_ins {v y : Ver} : ∀ {l : List Ver}, y ∈ insV v l ↔ y = v ∨ y ∈ l
  | [] => by simp [insV]
  | a :: r => by
    rw [insV]
    split
    · simp
    · rw [List.mem_cons, mem_ins (l := r), List.mem_cons]
      constructor
      · rintro (h | h | h) <;> simp [h]
      · rintro (h | h | h) <;> simp [h]
theorem len_ins (v : Ver) : ∀ (l : List Ver), (insV v l).length = l.length + 1
  | [] => rfl
  | a :: r => by
    rw [insV]
    split
    · rfl
    · simp [len_ins v r]
theorem ins_rises {v : Ver} : ∀ {l : List Ver} {last : Int}, risesV last l = true → last < v.f → versionB v = true → (∀ a ∈ l, a.f ≠ v.f) → risesV last (insV v l) = true
  | [], last, _, h1, h2, _ => by
    rw [insV, risesV, if_neg (by simp [h2]; omega)]; rfl
  | a :: r, last, h, h1, h2, h3 => by
    rw [risesV] at h
    split at h
    · cases h
    · rename_i hn
      simp only [not_or, Bool.not_eq_false] at hn
      have ha := h3 a (by simp)
      rw [insV]
      split
      · rename_i hv
        rw [risesV, if_neg (by simp [h2]; omega), risesV, if_neg (by simp [hn.2]; omega)]
        exact h
      · rw [risesV, if_neg (by simp [hn.2]; omega)]
        exact ins_rises h (by omega) h2 (fun b hb => h3 b (by simp [hb]))
theorem ins_comm {v w : Ver} (hne : v.f ≠ w.f) : ∀ (l : List Ver), insV v (insV w l) = insV w (insV v l)
  | [] => by
    simp only [insV]
    by_cases h : v.f < w.f
    · rw [if_pos h, if_neg (by omega)]
    · rw [if_neg h, if_pos (by omega)]
  | a :: r => by
    have ih := ins_comm hne r
    by_cases h1 : v.f < a.f <;> by_cases h2 : w.f < a.f
    · by_cases h : v.f < w.f
      · simp [insV, h1, h2, h, show ¬ w.f < v.f by omega]
      · simp [insV, h1, h2, h, show w.f < v.f by omega]
    · simp [insV, h1, h2, show ¬ w.f < v.f by omega]
    · simp [insV, h1, h2, show ¬ v.f < w.f by omega]
    · simp [insV, h1, h2, ih]

/-- What is asked where a version is put in. -/
theorem put_ok {l l2 : List Ver} {v : Ver} (h : putV l v = (0, l2)) : rightT l = true ∧ versionB v = true ∧ (∀ a ∈ l, a.f ≠ v.f) ∧ l.length ≠ 100 ∧ l2 = insV v l := by
  unfold putV at h
  split at h
  · cases h
  · rename_i h1
    rw [Bool.not_eq_false, Bool.and_eq_true] at h1
    split at h
    · cases h
    · rename_i h2
      split at h
      · cases h
      · rename_i h3
        cases h
        refine ⟨h1.1, h1.2, fun a ha e => h2 (List.any_eq_true.2 ⟨a, ha, by simpa using e⟩), h3, rfl⟩
theorem put_of {l : List Ver} {v : Ver} (h1 : rightT l = true) (h2 : versionB v = true) (h3 : ∀ a ∈ l, a.f ≠ v.f) (h4 : l.length ≠ 100) : putV l v = (0, insV v l) := by
  unfold putV
  rw [if_neg (by simp [h1, h2]), if_neg (by
    intro h
    obtain ⟨a, ha, h5⟩ := List.any_eq_true.1 h
    exact h3 a ha (by simpa using h5)), if_neg h4]
theorem put_code {l : List Ver} {v : Ver} (h : (putV l v).1 ≠ 0) : (putV l v).2 = [] := by
  unfold putV at h ⊢
  split
  · rfl
  · rename_i h1
    rw [if_neg h1] at h
    split
    · rfl
    · rename_i h2
      rw [if_neg h2] at h
      split
      · rfl
      · rename_i h3
        rw [if_neg h3] at h
        exact absurd rfl h
theorem put_there {l : List Ver} {v : Ver} (h1 : rightT l = true) (h2 : versionB v = true) {a : Ver} (h3 : a ∈ l) (h4 : a.f = v.f) : putV l v = (8, []) := by
  unfold putV
  rw [if_neg (by simp [h1, h2]), if_pos (List.any_eq_true.2 ⟨a, h3, by simpa using h4⟩)]
theorem ins_right {l : List Ver} {v : Ver} (h1 : rightT l = true) (h2 : versionB v = true) (h3 : ∀ a ∈ l, a.f ≠ v.f) (h4 : l.length < 100) : rightT (insV v l) = true := by
  have h5 := version_f h2
  rw [rightT, Bool.and_eq_true] at h1 ⊢
  exact ⟨by rw [decide_eq_true_eq, len_ins]; omega, ins_rises h1.2 (by omega) h2 h3⟩

/-- What a version put in is told of. -/
theorem at_ins {l : List Ver} {v : Ver} {d : Int} (h1 : rightT l = true) (h2 : versionB v = true) (h3 : ∀ a ∈ l, a.f ≠ v.f) (h4 : l.length < 100) :
    (v.f ≤ d → (∀ b, atL l d = some b → b.f < v.f) → atL (insV v l) d = some v) ∧ (¬ (v.f ≤ d ∧ ∀ b, atL l d = some b → b.f < v.f) → atL (insV v l) d = atL l d) := by
  have hr := right_rises h1
  have hr2 := right_rises (ins_right h1 h2 h3 h4)
  refine ⟨fun h5 h6 => ?_, fun h5 => ?_⟩
  · refine (atL_some_iff hr2).2 ⟨mem_ins.2 (.inl rfl), h5, fun y hy hyd => ?_⟩
    rcases mem_ins.1 hy with h | h
    · subst h; omega
    · cases h7 : atL l d with
      | none => have := atL_none_iff.1 h7 y h; omega
      | some b =>
        have h8 := ((atL_some_iff hr).1 h7).2.2 y h hyd
        have h9 := h6 b h7
        omega
  · cases h7 : atL l d with
    | none =>
      have h8 : ¬ v.f ≤ d := fun h => h5 ⟨h, fun b hb => by rw [h7] at hb; cases hb⟩
      refine atL_none_iff.2 fun y hy => ?_
      rcases mem_ins.1 hy with h | h
      · subst h; omega
      · exact atL_none_iff.1 h7 y h
    | some b =>
      obtain ⟨b1, b2, b3⟩ := (atL_some_iff hr).1 h7
      refine (atL_some_iff hr2).2 ⟨mem_ins.2 (.inr b1), b2, fun y hy hyd => ?_⟩
      rcases mem_ins.1 hy with h | h
      · subst h
        have : ¬ b.f < y.f := fun h => h5 ⟨hyd, fun b' hb' => by rw [h7] at hb'; cases hb'; exact h⟩
        omega
      · exact b3 y h hyd

/-! ### The greatest one, in a loop -/
def mostF (l : List Ver) (d : Int) : Int := ((atL l d).map (·.f)).getD 0
theorem atL_app (l : List Ver) (x : Ver) (d : Int) : atL (l ++ [x]) d = if x.f ≤ d then some x else atL l d := by
  unfold atL
  rw [List.filter_append]
  by_cases h : x.f ≤ d
  · rw [if_pos h, List.filter_cons_of_pos (by simpa using h)]; simp
  · rw [if_neg h, List.filter_cons_of_neg (by simpa using h)]; simp
theorem mostF_take {l : List Ver} {k : Nat} {x : Ver} {d : Int} (hr : rightT l = true) (h : l[k]? = some x) : mostF (l.take (k + 1)) d = if x.f ≤ d then max (mostF (l.take k) d) x.f else mostF (l.take k) d := by
  have hx := (right_pos hr x (List.mem_of_getElem? h)).1
  rw [mostF, Go.Proofs.Ytaboachegclaiaa.take_of h, atL_app]
  by_cases hd : x.f ≤ d
  · rw [if_pos hd, if_pos hd]
    have h1 : mostF (l.take k) d < x.f := by
      unfold mostF
      cases h2 : atL (l.take k) d with
      | none => simp; omega
      | some b =>
        have hb := atL_mem h2
        obtain ⟨i, hi, he⟩ := List.getElem_of_mem hb
        rw [List.length_take] at hi
        have h3 : l[i]? = some b := by
          rw [← he, List.getElem_take, List.getElem?_eq_getElem]
        rw [rightT, Bool.and_eq_true] at hr
        exact (rises_facts hr.2).1 i k b x (by omega) h3 h
    simp only [Option.map_some, Option.getD_some]
    omega
  · rw [if_neg hd, if_neg hd]; rfl
theorem mostF_pos {l : List Ver} {d : Int} (hr : rightT l = true) : (0 < mostF l d ↔ (atL l d).isSome = true) ∧ 0 ≤ mostF l d ∧ mostF l d ≤ 292194 := by
  unfold mostF
  cases h : atL l d with
  | none => simp
  | some b =>
    have h1 := right_pos hr b (atL_mem h)
    have h2 := version_f h1.2
    simp only [Option.map_some, Option.getD_some, Option.isSome_some, iff_true]
    omega
theorem at_later {l : List Ver} {a b : Int} {x : Ver} (hr : rightT l = true) (hab : a ≤ b) (hx : atL l a = some x) : ∃ y, atL l b = some y ∧ x.f ≤ y.f := by
  have hri := right_rises hr
  obtain ⟨h1, h2, _⟩ := (atL_some_iff hri).1 hx
  cases h : atL l b with
  | none => have := atL_none_iff.1 h x h1; omega
  | some y => exact ⟨y, rfl, ((atL_some_iff hri).1 h).2.2 x h1 (by omega)⟩

def atC (l : List Ver) (d : Int) : Int := if (atL l d).isSome = true then 0 else 7
open Go.RowKit in
/-- At, in one form whether there is a version or not. -/
theorem at_u {w0 w wa : World} {A : Option Addr} {n cap : Nat} {M : List Vw} {l : List Ver} {d c m : Int} (hs : TV wa A n cap M) (ha : Below wa.heap.size wa w) (h : Below w0.heap.size w0 w) (hl : allV M = l) (hf : FitL l) (hc : atC l d = c) (hm : mostF l d = m) :
    Calls Try.prog 14 #[.agg #[.slice A n cap], .int .i64 d] w
    fun e w' => ∃ x : Vw, e = .returned (.tuple #[.agg #[.int .i64 x.f, .int .i64 x.b0, .int .i64 x.b1, .int .i64 x.b2, .int .i64 x.b3, .slice x.aA x.age.length x.aC, .slice x.zA x.zone.length x.zC, .slice x.pA x.peril.length x.pC, .int .i64 x.mn], .int .i64 c]) ∧ x.f = m ∧ VOK w' x ∧ (∀ v, atL l d = some v → x.v = v) ∧ (atL l d = none → x = zeroW) ∧ Below w0.heap.size w0 w' ∧ Below w.heap.size w w' := by
  have hM := hs.len
  subst hM
  refine (at_any A cap M d w (hs.below ha) (fit_M hf hl)).mono ?_
  rintro e w' ⟨hb, ⟨h1, he⟩ | ⟨v', h1, x, he, hxv, hx⟩⟩
  · rw [hl] at h1
    have hc' : c = 7 := by rw [← hc, atC, h1]; rfl
    have hm' : m = 0 := by rw [← hm, mostF, h1]; rfl
    subst hc' hm'
    exact ⟨zeroW, he, rfl, vok_zero w', fun v hv => (by rw [h1] at hv; cases hv), fun _ => rfl, chain h hb, hb⟩
  · rw [hl] at h1
    have hc' : c = 0 := by rw [← hc, atC, h1]; rfl
    have hm' : m = x.f := by rw [← hm, mostF, h1, ← hxv]; rfl
    subst hc' hm'
    exact ⟨x, he, rfl, hx, fun v hv => (by rw [h1] at hv; cases hv; exact hxv), fun h0 => (by rw [h1] at h0; cases h0), chain h hb, hb⟩
end Go.Proofs.Ytaboachegclaiaa
