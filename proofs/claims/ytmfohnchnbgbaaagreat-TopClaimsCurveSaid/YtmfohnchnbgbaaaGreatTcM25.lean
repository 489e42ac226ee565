/- Part 25 of the proof. -/
import Derived.Test.YtmfohnchnbgbaaaGreatTcM24
/- TopClaimsCurve: the plain law: what was paid by a day is what is paid of the files as they were known then. -/
namespace Go.Proofs.YtmfohnchnbgbaaaGreat
open Go.RowKit

/-! ### A sorted list is cut in two by a bound -/
theorem cut_two {α : Type} {k : α → Int} {d : Int} : ∀ {l : List α}, l.Pairwise (fun x y => k x ≤ k y) → l = l.filter (fun x => decide (k x ≤ d)) ++ l.filter (fun x => !decide (k x ≤ d))
  | [], _ => rfl
  | x :: r, h => by
    rw [List.pairwise_cons] at h
    by_cases hx : k x ≤ d
    · rw [List.filter_cons_of_pos (by simpa using hx), List.filter_cons_of_neg (by simpa using hx), List.cons_append, ← cut_two h.2]
    · have h1 : r.filter (fun y => decide (k y ≤ d)) = [] := List.filter_eq_nil_iff.2 fun y hy => by
        have := h.1 y hy
        simp; omega
      have h2 : r.filter (fun y => !decide (k y ≤ d)) = r := List.filter_eq_self.2 fun y hy => by
        have := h.1 y hy
        simp; omega
      rw [List.filter_cons_of_neg (by simpa using hx), List.filter_cons_of_pos (by simpa using hx), h1, h2, List.nil_append]

/-! ### The files as they were known -/
/-- Files that are, one by one, the known ones as they were known. -/
def KnI (d : Int) (L L' : List Fl) : Prop := L'.map (fun x => (x.c, x.l)) = (L.filter fun x => decide (x.c.bkd ≤ d)).map (fun x => (x.c, atL_Claim d x.l))
theorem KnI.mem {d : Int} {L L' : List Fl} (h : KnI d L L') {x : Fl} (hx : x ∈ L') : ∃ y ∈ L, y.c.bkd ≤ d ∧ x.c = y.c ∧ x.l = atL_Claim d y.l := by
  have h1 : (x.c, x.l) ∈ L'.map (fun x => (x.c, x.l)) := List.mem_map.2 ⟨x, hx, rfl⟩
  rw [h] at h1
  obtain ⟨y, hy, he⟩ := List.mem_map.1 h1
  rw [List.mem_filter] at hy
  exact ⟨y, hy.1, by simpa using hy.2, (congrArg Prod.fst he).symm, (congrArg Prod.snd he).symm⟩
theorem made_sorted {bkd : Int} {l : List Ac} (h : madeB bkd l = true) : (∀ a ∈ l, bkd ≤ a.b) ∧ l.Pairwise (fun x y => x.b ≤ y.b) := by
  have key : ∀ k, k ≤ l.length → (∀ a ∈ l.take k, bkd ≤ a.b) ∧ (l.take k).Pairwise (fun x y => x.b ≤ y.b) ∧ ∀ a ∈ l.take k, a.b ≤ lastB bkd (l.take k) := by
    intro k
    induction k with
    | zero => intro _; simp
    | succ k ih =>
      intro hk
      obtain ⟨h1, h2, h3⟩ := ih (by omega)
      obtain ⟨a, ha⟩ := get_of (l := l) (k := k) (by omega)
      have h4 := (putC_zero (madeB_at h ha)).2.2.1
      have h5 : ∀ x ∈ l.take k, x.b ≤ a.b := fun x hx => by have := h3 x hx; omega
      have h6 : bkd ≤ a.b := by
        unfold lastB at h4
        split at h4
        · rename_i y hy
          have := h1 y (List.mem_of_getLast? hy)
          omega
        · exact h4
      rw [take_of ha]
      refine ⟨fun x hx => ?_, ?_, fun x hx => ?_⟩
      · rcases List.mem_append.1 hx with hx | hx
        · exact h1 x hx
        · rw [List.mem_singleton] at hx; subst hx; exact h6
      · rw [List.pairwise_append]
        exact ⟨h2, List.pairwise_singleton _ _, fun x hx y hy => by rw [List.mem_singleton] at hy; subst hy; exact h5 x hx⟩
      · rw [lastB, List.getLast?_concat]
        rcases List.mem_append.1 hx with hx | hx
        · exact h5 x hx
        · rw [List.mem_singleton] at hx; subst hx; exact Int.le_refl _
  have := key l.length (Nat.le_refl _)
  rw [List.take_length] at this
  exact ⟨this.1, this.2.1⟩
theorem made_cut {bkd d : Int} {l : List Ac} (h : madeB bkd l = true) : madeB bkd (atL_Claim d l) = true := by
  have hs := cut_two (d := d) (made_sorted h).2
  refine madeB_yes fun k a ha => ?_
  change (l.filter fun x => decide (x.b ≤ d))[k]? = some a at ha
  have hlt := lt_of_get ha
  have h1 : l[k]? = some a := by rw [hs, List.getElem?_append_left hlt]; exact ha
  have h2 : (atL_Claim d l).take k = l.take k := by
    show (l.filter fun x => decide (x.b ≤ d)).take k = _
    conv => rhs; rw [hs]
    rw [List.take_append_of_le_length (Nat.le_of_lt hlt)]
  rw [h2]
  exact madeB_at h h1
theorem known_right {c : Cv} {d : Int} {L L' : List Fl} (h : KnI d L L') (hr : rightF c L = true) : rightF c L' = true := by
  obtain ⟨h1, h2⟩ := right_file hr
  unfold rightF
  rw [h1, Bool.true_and, Bool.not_eq_true', List.any_eq_false]
  intro x hx
  obtain ⟨y, hy, _, hc, hl⟩ := h.mem hx
  obtain ⟨a1, a2, a3⟩ := h2 y hy
  unfold badF
  rw [hc, hl, made_cut a3, a1, a2]
  simp
theorem known_len {d : Int} {L L' : List Fl} (h : KnI d L L') : L'.length ≤ L.length := by
  have := congrArg List.length h
  rw [List.length_map, List.length_map] at this
  rw [this]
  exact List.length_filter_le _ _
theorem acts_key (L : List Fl) : actsN L = ((L.map fun x => (x.c, x.l)).map fun p => p.2.length).sum := by
  unfold actsN
  rw [List.map_map]
  rfl
theorem known_acts {d : Int} {L L' : List Fl} (h : KnI d L L') : actsN L' ≤ actsN L := by
  rw [acts_key L', show L'.map (fun x => (x.c, x.l)) = _ from h, List.map_map]
  unfold actsN
  clear h
  induction L with
  | nil => simp
  | cons x r ih =>
    have hx : (atL_Claim d x.l).length ≤ x.l.length := List.length_filter_le _ _
    by_cases hb : x.c.bkd ≤ d
    · rw [List.filter_cons_of_pos (by simpa using hb)]
      simp only [List.map_cons, List.sum_cons, Function.comp_apply]
      omega
    · rw [List.filter_cons_of_neg (by simpa using hb)]
      simp only [List.map_cons, List.sum_cons]
      omega
theorem known_check {c : Cv} {d : Int} {L L' : List Fl} (h : KnI d L L') (hq : checkQ c L = 0) : checkQ c L' = 0 := by
  obtain ⟨h1, h2, h3⟩ := check_zero hq
  have h4 := known_len h
  have h5 := known_acts h
  unfold checkQ
  rw [if_pos (known_right h h1), if_neg (by omega)]

/-! ### Their steps: the same, but for the files' numbers -/
def ren (ι : Nat → Nat) (s : Stp) : Stp := ⟨(ι s.f.toNat : Nat), s.b, s.k, s.m⟩
def stepsK : Nat → List (List Ac) → List Stp
  | _, [] => []
  | i, l :: r => (l.map fun a => (⟨i, a.b, a.k, a.m⟩ : Stp)) ++ stepsK (i + 1) r
theorem stepsK_eq : ∀ (L : List Fl) (i : Nat), stepsL i L = stepsK i (L.map fun x => x.l)
  | [], _ => rfl
  | x :: r, i => by rw [stepsL, List.map_cons, stepsK, stepsK_eq r]; rfl
theorem stepsK_mem : ∀ {M : List (List Ac)} {i : Nat} {s : Stp}, s ∈ stepsK i M → ∃ k : Nat, s.f = ((i + k : Nat) : Int) ∧ k < M.length
  | [], _, _, h => by simp [stepsK] at h
  | l :: r, i, s, h => by
    rw [stepsK, List.mem_append] at h
    rcases h with h | h
    · obtain ⟨a, _, rfl⟩ := List.mem_map.1 h
      exact ⟨0, rfl, by simp⟩
    · obtain ⟨k, h1, h2⟩ := stepsK_mem h
      exact ⟨k + 1, by rw [h1]; congr 1; omega, by simpa using h2⟩
/-- Numbers that rise. -/
def RisN (ι : Nat → Nat) (a b lo hi : Nat) : Prop := (∀ j, a ≤ j → j < b → lo ≤ ι j ∧ ι j < hi) ∧ ∀ j k, a ≤ j → j < k → k < b → ι j < ι k
theorem steps_known {d : Int} : ∀ {L : List Fl} (i i' : Nat), (∀ x ∈ L, madeB x.c.bkd x.l = true) →
    ∃ ι : Nat → Nat, RisN ι i' (i' + (L.filter fun x => decide (x.c.bkd ≤ d)).length) i (i + L.length) ∧ (stepsK i' ((L.filter fun x => decide (x.c.bkd ≤ d)).map fun x => atL_Claim d x.l)).map (ren ι) = (stepsL i L).filter fun s => decide (s.b ≤ d)
  | [], i, i', _ => ⟨fun _ => 0, ⟨fun j h1 h2 => by simp at h2; omega, fun j k h1 h2 h3 => by simp at h3; omega⟩, rfl⟩
  | x :: r, i, i', hm => by
    have hfl : (stepsF i x).filter (fun s => decide (s.b ≤ d)) = (atL_Claim d x.l).map fun a => (⟨i, a.b, a.k, a.m⟩ : Stp) := by
      unfold stepsF atL_Claim
      rw [List.filter_map]
      rfl
    by_cases hb : x.c.bkd ≤ d
    · obtain ⟨ι, ⟨h1, h2⟩, h3⟩ := steps_known (d := d) (L := r) (i + 1) (i' + 1) (fun y hy => hm y (by simp [hy]))
      rw [List.filter_cons_of_pos (by simpa using hb)]
      refine ⟨fun j => if j = i' then i else ι j, ⟨fun j g1 g2 => ?_, fun j k g1 g2 g3 => ?_⟩, ?_⟩
      · rw [List.length_cons] at g2 ⊢
        show i ≤ (if j = i' then i else ι j) ∧ (if j = i' then i else ι j) < i + (r.length + 1)
        by_cases hj : j = i'
        · rw [if_pos hj]; omega
        · rw [if_neg hj]
          have := h1 j (by omega) (by omega)
          omega
      · rw [List.length_cons] at g3
        show (if j = i' then i else ι j) < (if k = i' then i else ι k)
        rw [if_neg (show ¬ k = i' by omega)]
        by_cases hj : j = i'
        · rw [if_pos hj]
          have := h1 k (by omega) (by omega)
          omega
        · rw [if_neg hj]
          exact h2 j k (by omega) g2 (by omega)
      · rw [List.map_cons, stepsK, List.map_append, stepsL, List.filter_append, hfl, ← h3, List.map_map]
        congr 1
        · apply List.map_congr_left
          intro a _
          show (⟨((if (i' : Int).toNat = i' then i else ι (i' : Int).toNat : Nat) : Int), a.b, a.k, a.m⟩ : Stp) = _
          rw [if_pos (by simp)]
        · apply List.map_congr_left
          intro s hs
          obtain ⟨k, hk, _⟩ := stepsK_mem hs
          show (⟨((if s.f.toNat = i' then i else ι s.f.toNat : Nat) : Int), s.b, s.k, s.m⟩ : Stp) = ⟨((ι s.f.toNat : Nat) : Int), s.b, s.k, s.m⟩
          rw [if_neg (by rw [hk]; simp; omega)]
    · obtain ⟨ι, ⟨h1, h2⟩, h3⟩ := steps_known (d := d) (L := r) (i + 1) i' (fun y hy => hm y (by simp [hy]))
      rw [List.filter_cons_of_neg (by simpa using hb)]
      refine ⟨ι, ⟨fun j g1 g2 => ?_, h2⟩, ?_⟩
      · have := h1 j g1 g2
        rw [List.length_cons]; omega
      · have hnil : atL_Claim d x.l = [] := List.filter_eq_nil_iff.2 fun a ha => by
          have := (made_sorted (hm x (by simp))).1 a ha
          simp; omega
        rw [stepsL, List.filter_append, hfl, hnil, List.map_nil, List.nil_append]
        exact h3

/-! ### And in order -/
theorem zip_sorted {α : Type} : ∀ (l : List α) (k : Nat), (l.zipIdx k).Pairwise (fun x y => x.2 < y.2)
  | [], _ => List.Pairwise.nil
  | x :: r, k => by
    rw [List.zipIdx_cons, List.pairwise_cons]
    refine ⟨fun y hy => ?_, zip_sorted r (k + 1)⟩
    have := List.le_snd_of_mem_zipIdx hy
    simp only
    omega
/-- Where T' renamed is what of T is before a day, so are they in order. -/
theorem sort_known {d : Int} {ι : Nat → Nat} {n : Nat} {T T' : List Stp} (hι : ∀ j k, j < k → k < n → ι j < ι k) (hf : ∀ s ∈ T', ∃ j : Nat, s.f = (j : Int) ∧ j < n)
    (h : T'.map (ren ι) = T.filter fun s => decide (s.b ≤ d)) : (sortS T').map (ren ι) = (sortS T).filter fun s => decide (s.b ≤ d) := by
  obtain ⟨Z, hZ⟩ : ∃ Z, T.zipIdx.filter (fun x => decide (x.1.b ≤ d)) = Z := ⟨_, rfl⟩
  have hZ1 : Z.map Prod.fst = T'.map (ren ι) := by
    rw [h, ← hZ]
    have := List.filter_map (f := Prod.fst) (p := fun s : Stp => decide (s.b ≤ d)) (l := T.zipIdx)
    rw [List.zipIdx_map_fst] at this
    rw [this]
    rfl
  have hlen : Z.length = T'.length := by have := congrArg List.length hZ1; simpa using this
  have hZs : Z.Pairwise (fun x y => x.2 < y.2) := by rw [← hZ]; exact (zip_sorted T 0).filter _
  obtain ⟨g, hg⟩ : ∃ g : Stp × Nat → Stp × Nat, g = fun p => Z.getD p.2 (p.1, 0) := ⟨_, rfl⟩
  have hgz : ∀ (j : Nat) (s : Stp), T'[j]? = some s → ∃ z, Z[j]? = some z ∧ g (s, j) = z ∧ z.1 = ren ι s := fun j s hs => by
    obtain ⟨z, hz⟩ := get_of (l := Z) (k := j) (by rw [hlen]; exact lt_of_get hs)
    refine ⟨z, hz, by rw [hg]; simp [List.getD_eq_getElem?_getD, hz], ?_⟩
    have h1 : (Z.map Prod.fst)[j]? = some z.1 := by rw [List.getElem?_map, hz]; rfl
    rw [hZ1, List.getElem?_map, hs] at h1
    exact (Option.some.inj h1).symm
  have hmemZ : ∀ p ∈ srtS T', T'[p.2]? = some p.1 := fun p hp => by
    have h1 := (srtS_perm T').mem_iff.1 hp
    have := List.mk_mem_zipIdx_iff_getElem?.1 (show (p.1, p.2) ∈ T'.zipIdx from h1)
    exact this
  have hmapz : T'.zipIdx.map g = Z := by
    apply List.ext_getElem?
    intro j
    rw [List.getElem?_map, List.getElem?_zipIdx]
    by_cases hj : j < T'.length
    · obtain ⟨s, hs⟩ := get_of hj
      obtain ⟨z, h1, h2, _⟩ := hgz j s hs
      rw [hs, h1]
      simp [h2]
    · rw [List.getElem?_eq_none (by omega), List.getElem?_eq_none (by omega)]; rfl
  have hperm : ((srtS T').map g).Perm ((srtS T).filter fun x => decide (x.1.b ≤ d)) := by
    have h1 := (srtS_perm T').map g
    rw [hmapz, ← hZ] at h1
    exact h1.trans ((srtS_perm T).filter _).symm
  have hsg : ((srtS T').map g).Pairwise ltS := by
    rw [List.pairwise_map]
    refine List.Pairwise.imp_of_mem ?_ (srtS_sorted T')
    intro p q hp hq hpq
    have p1 := hmemZ p hp
    have q1 := hmemZ q hq
    obtain ⟨z, a1, a2, a3⟩ := hgz p.2 p.1 p1
    obtain ⟨y, b1, b2, b3⟩ := hgz q.2 q.1 q1
    obtain ⟨j, hj, hjn⟩ := hf p.1 (List.mem_of_getElem? p1)
    obtain ⟨k, hk, hkn⟩ := hf q.1 (List.mem_of_getElem? q1)
    have e1 : g p = z := a2
    have e2 : g q = y := b2
    rw [e1, e2]
    unfold ltS at hpq ⊢
    rw [a3, b3]
    simp only [ren]
    rw [hj, hk] at hpq ⊢
    simp only [Int.toNat_natCast]
    rcases hpq with h1 | ⟨h1, h2 | ⟨h2, h3⟩⟩
    · exact .inl h1
    · have := hι j k (by omega) hkn
      exact .inr ⟨h1, .inl (by omega)⟩
    · have hjk : j = k := by omega
      subst hjk
      refine .inr ⟨h1, .inr ⟨rfl, ?_⟩⟩
      obtain ⟨g1, g2⟩ := List.getElem?_eq_some_iff.1 a1
      obtain ⟨g3, g4⟩ := List.getElem?_eq_some_iff.1 b1
      have := List.pairwise_iff_getElem.1 hZs p.2 q.2 g1 g3 h3
      rw [g2, g4] at this
      exact this
  have heq := sorted_unique (fun x y a b => by unfold ltS at a b; omega) hperm hsg ((srtS_sorted T).filter _)
  have hz1 : (srtS T').map (fun p => ren ι p.1) = ((srtS T').map g).map Prod.fst := by
    rw [List.map_map]
    apply List.map_congr_left
    intro p hp
    obtain ⟨z, a1, a2, a3⟩ := hgz p.2 p.1 (hmemZ p hp)
    show ren ι p.1 = (g (p.1, p.2)).1
    rw [a2, a3]
  unfold sortS
  rw [List.map_map, List.filter_map]
  show (srtS T').map (fun p => ren ι p.1) = _
  rw [hz1, heq]
  rfl
theorem sort_days (T : List Stp) : (sortS T).Pairwise (fun x y => x.b ≤ y.b) := by
  unfold sortS
  rw [List.pairwise_map]
  exact (srtS_sorted T).imp fun {x y} h => by unfold ltS at h; omega

/-! ### What is paid -/
/-- The same, but for the files' numbers. -/
structure PR (ι : Nat → Nat) (n' : Nat) (s' s : PS) : Prop where
  al : s'.all = s.all
  sh : ∀ j, j < n' → geI s'.sh j = geI s.sh (ι j)
  pd : ∀ j, j < n' → geI s'.pd j = geI s.pd (ι j)
  sm : (s'.out.map (·.m)).sum = (s.out.map (·.m)).sum
theorem geI_set {l : List Int} {f j : Nat} {u : Int} (h : f < l.length) : geI (l.set f u) j = if j = f then u else geI l j := by
  unfold geI
  rw [List.getElem?_set]
  by_cases hj : f = j
  · subst hj
    rw [if_pos rfl, if_pos rfl, if_pos h]; rfl
  · rw [if_neg hj, if_neg (fun e => hj e.symm)]
theorem pStep_ren {c : Cv} {ι : Nat → Nat} {n n' : Nat} {s' s : PS} {x : Stp} {f : Nat} (hι : ∀ j k, j < k → k < n' → ι j < ι k) (hιn : ∀ j, j < n' → ι j < n) (hx : x.f = (f : Int)) (hf : f < n')
    (h : PR ι n' s' s) (l1 : s'.sh.length = n') (l2 : s'.pd.length = n') (l3 : s.sh.length = n) (l4 : s.pd.length = n) :
    PR ι n' (pStep c s' x) (pStep c s (ren ι x)) ∧ (pStep c s' x).sh.length = n' ∧ (pStep c s' x).pd.length = n' ∧ (pStep c s (ren ι x)).sh.length = n ∧ (pStep c s (ren ι x)).pd.length = n := by
  have e1 : x.f.toNat = f := by rw [hx, Int.toNat_natCast]
  have e2 : (ren ι x).f.toNat = ι f := by show ((ι x.f.toNat : Nat) : Int).toNat = _; rw [e1, Int.toNat_natCast]
  have hm : morQ c s (ren ι x) = morQ c s' x := by
    unfold morQ
    rw [e1, e2, h.sh f hf, h.pd f hf, h.al]; rfl
  have hinj : ∀ j, j < n' → ((ι j = ι f) ↔ j = f) := fun j hj => by
    refine ⟨fun e => ?_, fun e => by rw [e]⟩
    rcases Nat.lt_trichotomy j f with h1 | h1 | h1
    · have := hι j f h1 hf; omega
    · exact h1
    · have := hι f j h1 hj; omega
  have hsh : ∀ j, j < n' → geI (s'.sh.set f (geI s'.sh f + x.m)) j = geI (s.sh.set (ι f) (geI s.sh (ι f) + x.m)) (ι j) := fun j hj => by
    rw [geI_set (by omega), geI_set (by rw [l3]; exact hιn f hf)]
    by_cases hjf : j = f
    · rw [if_pos hjf, if_pos ((hinj j hj).2 hjf), h.sh f hf]
    · rw [if_neg hjf, if_neg (fun e => hjf ((hinj j hj).1 e)), h.sh j hj]
  have hpd : ∀ u j, j < n' → geI (s'.pd.set f (geI s'.pd f + u)) j = geI (s.pd.set (ι f) (geI s.pd (ι f) + u)) (ι j) := fun u j hj => by
    rw [geI_set (by omega), geI_set (by rw [l4]; exact hιn f hf)]
    by_cases hjf : j = f
    · rw [if_pos hjf, if_pos ((hinj j hj).2 hjf), h.pd f hf]
    · rw [if_neg hjf, if_neg (fun e => hjf ((hinj j hj).1 e)), h.pd j hj]
  unfold pStep
  rw [hm, e1, e2]
  show PR ι n' _ (if x.k = 2 then _ else _) ∧ _ ∧ _ ∧ (if x.k = 2 then _ else _ : PS).sh.length = n ∧ (if x.k = 2 then _ else _ : PS).pd.length = n
  by_cases hk : x.k = 2
  · rw [if_pos hk, if_pos hk]
    by_cases hq : morQ c s' x ≤ 0
    · rw [if_pos hq, if_pos hq]
      exact ⟨⟨h.al, hsh, h.pd, h.sm⟩, by simpa using l1, l2, by simpa using l3, l4⟩
    · rw [if_neg hq, if_neg hq]
      refine ⟨⟨by show _ + _ = _ + _; rw [h.al], hsh, hpd _, ?_⟩, by simpa using l1, by simpa using l2, by simpa using l3, by simpa using l4⟩
      show ((s'.out ++ [_]).map fun r : R3 => r.m).sum = ((s.out ++ [_]).map fun r : R3 => r.m).sum
      rw [List.map_append, List.sum_append, List.map_append, List.sum_append, h.sm]
      rfl
  · rw [if_neg hk, if_neg hk]
    exact ⟨h, l1, l2, l3, l4⟩
theorem run_ren {c : Cv} {ι : Nat → Nat} {n n' : Nat} (hι : ∀ j k, j < k → k < n' → ι j < ι k) (hιn : ∀ j, j < n' → ι j < n) : ∀ (S : List Stp) {s' s : PS}, (∀ x ∈ S, ∃ f : Nat, x.f = (f : Int) ∧ f < n') →
    PR ι n' s' s → s'.sh.length = n' → s'.pd.length = n' → s.sh.length = n → s.pd.length = n → PR ι n' (S.foldl (pStep c) s') ((S.map (ren ι)).foldl (pStep c) s)
  | [], _, _, _, h, _, _, _, _ => h
  | x :: S, _, _, hS, h, l1, l2, l3, l4 => by
    obtain ⟨f, hx, hf⟩ := hS x (by simp)
    obtain ⟨q1, q2, q3, q4, q5⟩ := pStep_ren (c := c) hι hιn hx hf h l1 l2 l3 l4
    exact run_ren hι hιn S (fun y hy => hS y (by simp [hy])) q1 q2 q3 q4 q5
theorem geI_rep (n j : Nat) : geI (List.replicate n 0) j = 0 := by
  unfold geI
  rw [List.getElem?_replicate]
  split <;> rfl
/-- Rows that are made have their steps' days. -/
theorem run_days {c : Cv} (P : Int → Prop) : ∀ (S : List Stp) {s : PS}, (∀ x ∈ S, P x.b) → ∃ R : List R3, (S.foldl (pStep c) s).out = s.out ++ R ∧ ∀ r ∈ R, P r.b
  | [], s, _ => ⟨[], by simp, by simp⟩
  | x :: S, s, h => by
    obtain ⟨R, h1, h2⟩ := run_days (c := c) P S (s := pStep c s x) (fun y hy => h y (by simp [hy]))
    have hx : ∃ R1 : List R3, (pStep c s x).out = s.out ++ R1 ∧ ∀ r ∈ R1, P r.b := by
      unfold pStep
      split
      · split
        · exact ⟨[], by simp, by simp⟩
        · exact ⟨_, rfl, fun r hr => by rw [List.mem_singleton] at hr; subst hr; exact h x (by simp)⟩
      · exact ⟨[], by simp, by simp⟩
    obtain ⟨R1, h3, h4⟩ := hx
    refine ⟨R1 ++ R, by rw [List.foldl_cons, h1, h3, List.append_assoc], fun r hr => ?_⟩
    rcases List.mem_append.1 hr with hr | hr
    · exact h4 r hr
    · exact h2 r hr
theorem run_cut {c : Cv} {n : Nat} {d : Int} {S : List Stp} (hS : S.Pairwise (fun x y => x.b ≤ y.b)) :
    (pRun c n S).out.filter (fun r => decide (r.b ≤ d)) = (pRun c n (S.filter fun s => decide (s.b ≤ d))).out := by
  have hs := cut_two (d := d) hS
  obtain ⟨R1, h1, h2⟩ := run_days (c := c) (fun b => b ≤ d) (S.filter fun s => decide (s.b ≤ d)) (s := pInit n) (fun x hx => by simpa using (List.mem_filter.1 hx).2)
  obtain ⟨R2, h3, h4⟩ := run_days (c := c) (fun b => ¬ b ≤ d) (S.filter fun s => !decide (s.b ≤ d)) (s := (S.filter fun s => decide (s.b ≤ d)).foldl (pStep c) (pInit n)) (fun x hx => by simpa using (List.mem_filter.1 hx).2)
  have e : (pRun c n S).out = R1 ++ R2 := by
    unfold pRun
    conv => lhs; rw [hs]
    rw [List.foldl_append, h3, h1]
    rfl
  have e1 : (pRun c n (S.filter fun s => decide (s.b ≤ d))).out = R1 := by
    unfold pRun
    rw [h1]; rfl
  rw [e, e1, List.filter_append, List.filter_eq_self.2 (fun r hr => by simpa using h2 r hr), List.filter_eq_nil_iff.2 (fun r hr => by simpa using h4 r hr), List.append_nil]

/-- THE LAW: what is paid of the files as they were known on a day is what was paid by that day. -/
theorem known_paid {c : Cv} {d : Int} {L L' : List Fl} (h : KnI d L L') (hq : checkQ c L = 0) :
    (((paidS c L).out.filter fun r => decide (r.b ≤ d)).map (·.m)).sum = (paidS c L').all := by
  have hr := (check_zero hq).1
  have hr' := (check_zero (known_check h hq)).1
  obtain ⟨ι, ⟨i1, i2⟩, i3⟩ := steps_known (d := d) (L := L) 0 0 (fun x hx => ((right_file hr).2 x hx).2.2)
  have hn : (L.filter fun x => decide (x.c.bkd ≤ d)).length = L'.length := by
    have := congrArg List.length h
    rw [List.length_map, List.length_map] at this
    exact this.symm
  rw [hn, Nat.zero_add] at i1 i2
  have hM : (L.filter fun x => decide (x.c.bkd ≤ d)).map (fun x => atL_Claim d x.l) = L'.map fun x => x.l := by
    have := congrArg (List.map Prod.snd) h
    rw [List.map_map, List.map_map] at this
    exact this.symm
  rw [hM, ← stepsK_eq] at i3
  have hf : ∀ s ∈ stepsL 0 L', ∃ j : Nat, s.f = (j : Int) ∧ j < L'.length := fun s hs => (steps_ok hr' s hs).1
  have h1 := sort_known (fun j k g1 g2 => i2 j k (Nat.zero_le _) g1 g2) hf i3
  have h2 := run_cut (c := c) (n := L.length) (d := d) (sort_days (stepsL 0 L))
  have h3 := run_ren (c := c) (n := L.length) (n' := L'.length) (fun j k g1 g2 => i2 j k (Nat.zero_le _) g1 g2) (fun j g => by have := i1 j (Nat.zero_le _) g; omega) (sortS (stepsL 0 L')) (s' := pInit L'.length) (s := pInit L.length)
    (fun x hx => hf x ((sortS_perm _).mem_iff.1 hx)) ⟨rfl, fun j _ => by rw [pInit, pInit, geI_rep, geI_rep], fun j _ => by rw [pInit, pInit, geI_rep, geI_rep], rfl⟩ (by simp [pInit]) (by simp [pInit]) (by simp [pInit]) (by simp [pInit])
  have h4 := (paid_inv hr').tot
  unfold paidS at h4 ⊢
  rw [h2, ← h1, ← h4]
  exact h3.sm.symm
end Go.Proofs.YtmfohnchnbgbaaaGreat
