/- Part 14 of the proof. -/
import Derived.WalkSpells
import Derived.Test.YtmfohnchnbgbaaaGreatDoorYpM04
import Derived.Test.YtmfohnchnbgbaaaGreatDoorYpM06
import Derived.Test.YtmfohnchnbgbaaaGreatDoorYpM11
import Derived.Test.YtmfohnchnbgbaaaGreatDoorYpM13
/- The triangle of rows: facts of its cells; its contract from a base on. -/
namespace Go.Proofs.YtmfohnchnbgbaaaGreatDoor
open Go.RowKit

section
variable {w0 w : World} {A : Option Addr} {n cap : Nat} {l : List R3}
def OfB (w0 w : World) (f : Int) (C : List (List Int)) (m : Nat) (e : Ending) (w' : World) : Prop :=
  ∃ A' c' R, e = .returned (.tuple #[.agg #[.int .i64 f, .slice A' m c'], .int .i64 0]) ∧ MV w' A' m c' R ∧ allM R = C ∧ FreshT w A' R ∧ Below w0.heap.size w0 w' ∧ Below w.heap.size w w'
theorem of_yes {f : Int} {C : List (List Int)} {m : Nat} (hs : SV w0 3 A n cap (l.map enc3)) (hb : Below w0.heap.size w0 w) (hE : ofE l = 0) (hf : fromL l = f) (hC : ofC l = C) (hm : C.length = m) :
    Calls Tryz.prog 7 #[.slice A n cap] w (OfB w0 w f C m) := by
  have hn : l.length = n := by have := hs.len; simpa using this
  subst hn hf hC hm
  refine (of_any A cap l w (hs.below hb)).mono fun e w' h => ?_
  rw [hE] at h
  obtain ⟨h1, A', c', R, he, hmv, hr, hfr⟩ := h.yes
  have hl : R.length = (ofC l).length := by rw [← hr, allM_len]
  rw [hl] at he hmv
  exact ⟨A', c', R, he, hmv, hr, hfr, from_base hb h1⟩
theorem of_no {E : Int} (hs : SV w0 3 A n cap (l.map enc3)) (hb : Below w0.heap.size w0 w) (hE : ofE l = E) (h0 : E ≠ 0) :
    Calls Tryz.prog 7 #[.slice A n cap] w fun e w' => e = .returned (.tuple #[.agg #[.int .i64 0, .slice none 0 0], .int .i64 E]) ∧ Below w0.heap.size w0 w' ∧ Below w.heap.size w w' := by
  have hn : l.length = n := by have := hs.len; simpa using this
  subst hn
  refine (of_any A cap l w (hs.below hb)).mono fun e w' h => ?_
  rw [hE] at h
  obtain ⟨h1, he⟩ := h.no h0
  exact ⟨he, from_base hb h1⟩
end

/-- A row that the triangle has a cell for. -/
def Fits (f : Int) (n : Nat) (x : R3) : Prop := f ≤ yrV x.a ∧ idxO f x < n ∧ 0 ≤ devO x ∧ devO x < (n : Int) - idxO f x ∧ 0 ≤ x.m ∧ x.m ≤ 1000000000000000
theorem fits_all {l : List R3} (hc : chkL l = 0) (_hn : l ≠ []) {x : R3} (h : x ∈ l) : Fits (fromL l) (yearsN l) x := by
  have h1 := from_le h
  have h2 := le_to h
  have h3 := chk_yr (chkL_ok.1 hc x h)
  have h4 := chk_ok (chkL_ok.1 hc x h)
  have h5 := from_bd hc
  have h6 := to_bd hc
  unfold Fits idxO devO yearsN
  refine ⟨h1, by omega, by omega, by omega, h4.2.2.2.1, h4.2.2.2.2⟩
theorem ofO_shape {l : List R3} {c : List (List Int)} (hc : chkL l = 0) (h : ofO l = some c) : Shape (yearsN l) c :=
  shape_all (shape_zeros _) (fun x hx => (chk_ok (chkL_ok.1 hc x hx)).2.2.2.1) h
theorem right_shape {f : Int} {n : Nat} {c : List (List Int)} (h : Shape n c) (h1 : 1 ≤ n) (h2 : n ≤ 20) (h3 : 1601 ≤ f) (h4 : f ≤ 2401 - n) : rightC f c = true := by
  obtain ⟨hl, hr⟩ := h
  subst hl
  rw [rightC, Bool.and_eq_true]
  refine ⟨by simp only [boundsB, decide_eq_true_eq]; omega, (rowsB_iff _ _).2 fun i l hx => ?_⟩
  obtain ⟨h5, h6⟩ := hr i l hx
  simp only [goodRow, Bool.and_eq_true, decide_eq_true_eq, List.all_eq_true, okV]
  exact ⟨h5, h6⟩
/-- All that is known where the triangle is made. -/
theorem made {l : List R3} (h : ofE l = 0) : l ≠ [] ∧ chkL l = 0 ∧ ofO l = some (ofC l) ∧ Shape (yearsN l) (ofC l) ∧ rightC (fromL l) (ofC l) = true ∧ 1 ≤ yearsN l ∧ yearsN l ≤ 20 ∧ 1601 ≤ fromL l ∧ fromL l ≤ 2401 ∧ (ofC l).length = yearsN l := by
  obtain ⟨hn, hc, hb, c, ho⟩ := ofE_zero h
  have e : ofC l = c := by rw [ofC, ho]; rfl
  rw [e]
  have hs := ofO_shape hc ho
  have h1 := from_bd hc
  have h2 := to_bd hc
  have h3 := from_to hc hn
  have h4 : 1 ≤ yearsN l := by unfold yearsN; omega
  have h5 : yearsN l ≤ 20 := by unfold yearsN; omega
  have h6 : fromL l ≤ 2401 - (yearsN l : Int) := by unfold yearsN; omega
  exact ⟨hn, hc, ho, hs, right_shape hs h4 h5 h1.1 h6, h4, h5, h1.1, h1.2, hs.1⟩

/-! ### Together it is what was booked -/
def sumI : List Int → Int
  | [] => 0
  | x :: l => x + sumI l
def sumM (l : List R3) : Int := sumI (l.map (·.m))
theorem sumI_app (a b : List Int) : sumI (a ++ b) = sumI a + sumI b := by
  induction a with
  | nil => simp [sumI]
  | cons x a ih => rw [List.cons_append, sumI, sumI, ih]; omega
theorem sumI_set : ∀ {l : List Int} {i : Nat} {v u : Int}, l[i]? = some v → sumI (l.set i u) = sumI l - v + u
  | [], i, v, u, h => by simp at h
  | x :: l, 0, v, u, h => by simp at h; subst h; rw [List.set_cons_zero, sumI, sumI]; omega
  | x :: l, i + 1, v, u, h => by rw [List.set_cons_succ, sumI, sumI, sumI_set (by simpa using h)]; omega
theorem sumI_take {l : List Int} {k : Nat} {v : Int} (h : l[k]? = some v) : sumI (l.take (k + 1)) = sumI (l.take k) + v := by rw [take_of h, sumI_app]; simp [sumI]
theorem sumI_bd {B : Int} : ∀ {l : List Int}, (∀ v ∈ l, 0 ≤ v ∧ v ≤ B) → 0 ≤ sumI l ∧ sumI l ≤ l.length * B
  | [], _ => by simp [sumI]
  | x :: l, h => by
    have h1 := h x (by simp)
    have h2 := sumI_bd (l := l) (fun v hv => h v (by simp [hv]))
    rw [sumI, List.length_cons]
    have : ((l.length + 1 : Nat) : Int) * B = l.length * B + B := by rw [Int.natCast_add, Int.add_mul]; simp
    omega
theorem last_more {dev amt : Int} {r : List Int} (h0 : 0 ≤ dev) (h : dev < r.length) : lastI (moreL dev amt r) = lastI r + amt := by
  have hp : 0 < r.length := by omega
  obtain ⟨v, hv⟩ := get_of (l := r) (k := r.length - 1) (by omega)
  rw [lastI, lastI, List.getLast?_eq_getElem?, List.getLast?_eq_getElem?, moreL_len, moreL_get hv, hv]
  simp only [Option.getD_some, moreF]
  rw [if_pos (by omega)]
theorem diag_all {f : Int} {n : Nat} : ∀ {l : List R3} {c c' : List (List Int)}, Shape n c → (∀ x ∈ l, Fits f n x) → putAll f c l = some c' → sumI (c'.map lastI) = sumI (c.map lastI) + sumM l
  | [], c, c', _, _, h => by simp [putAll] at h; subst h; simp [sumM, sumI]
  | x :: l, c, c', hs, hf, h => by
    rw [putAll] at h
    split at h
    · rename_i hc
      obtain ⟨_, h2, h3, h4, h5, _⟩ := hf x (by simp)
      have := diag_all (shape_step hs h5 hc) (fun y hy => hf y (by simp [hy])) h
      obtain ⟨r, hr⟩ := get_of (l := c) (k := idxO f x) (by rw [hs.1]; exact h2)
      have hl := (hs.2 _ _ hr).1
      have er : rowO f c x = moreL (devO x) x.m r := by rw [rowO, List.getD_eq_getElem?_getD, hr]; rfl
      rw [this, List.map_set, er, last_more h3 (by omega), sumI_set (v := lastI r) (by rw [List.getElem?_map, hr]; rfl), sumM, sumM, List.map_cons, sumI]
      omega
    · cases h
theorem diag_zero (n : Nat) : sumI ((zerosT n).map lastI) = 0 := by
  have : ∀ v ∈ (zerosT n).map lastI, 0 ≤ v ∧ v ≤ 0 := by
    intro v hv
    obtain ⟨r, hr, rfl⟩ := List.mem_map.1 hv
    obtain ⟨i, hi⟩ := List.mem_iff_getElem?.1 hr
    have hlt := lt_of_get hi
    rw [zerosT_len] at hlt
    rw [zerosT_get hlt] at hi
    cases hi
    rw [lastI, List.getLast?_eq_getElem?, List.getElem?_replicate]
    split <;> simp
  have := sumI_bd this
  omega
theorem diag_sum {l : List R3} (h : ofE l = 0) : sumI (diagL (fromL l) (ofC l)) = sumM l := by
  obtain ⟨hn, hc, ho, hs, hr, _⟩ := made h
  rw [diagL, if_pos hr, diag_all (shape_zeros _) (fun x hx => fits_all hc hn hx) ho, diag_zero]
  omega
theorem diag_bd {f : Int} {c : List (List Int)} {v : Int} (h : v ∈ diagL f c) : 0 ≤ v ∧ v ≤ 100000000000000000 := by
  unfold diagL at h
  split at h
  · rename_i hr
    obtain ⟨r, hm, rfl⟩ := List.mem_map.1 h
    obtain ⟨i, hi⟩ := List.mem_iff_getElem?.1 hm
    obtain ⟨h1, h2⟩ := right_row hr hi
    have := lt_of_get hi
    obtain ⟨v, hv⟩ := get_of (l := r) (k := r.length - 1) (by omega)
    rw [lastI, List.getLast?_eq_getElem?, hv]
    exact h2 v (List.mem_of_getElem? hv)
  · simp at h

/-! ### No row falls -/
def Rising (l : List Int) : Prop := ∀ (k : Nat) (v u : Int), l[k]? = some v → l[k + 1]? = some u → v ≤ u
theorem rising_more {dev amt : Int} {l : List Int} (ha : 0 ≤ amt) (h : Rising l) : Rising (moreL dev amt l) := by
  intro k v u hv hu
  have h1 := lt_of_get hv
  have h2 := lt_of_get hu
  rw [moreL_len] at h1 h2
  obtain ⟨v0, hv0⟩ := get_of h1
  obtain ⟨u0, hu0⟩ := get_of h2
  rw [moreL_get hv0] at hv
  rw [moreL_get hu0] at hu
  cases hv; cases hu
  have := h k v0 u0 hv0 hu0
  unfold moreF
  split <;> split <;> omega
theorem rising_all {f : Int} : ∀ {l : List R3} {c c' : List (List Int)}, (∀ x ∈ l, 0 ≤ x.m) → (∀ r ∈ c, Rising r) → putAll f c l = some c' → ∀ r ∈ c', Rising r
  | [], c, c', _, hr, h => by simp [putAll] at h; subst h; exact hr
  | x :: l, c, c', hm, hr, h => by
    rw [putAll] at h
    split at h
    · refine rising_all (fun y hy => hm y (by simp [hy])) (fun r hrm => ?_) h
      rcases List.mem_or_eq_of_mem_set hrm with h1 | h1
      · exact hr r h1
      · subst h1
        refine rising_more (hm x (by simp)) ?_
        rw [List.getD_eq_getElem?_getD]
        cases hx : c[idxO f x]? with
        | none => intro k v u hv; simp at hv
        | some r => exact hr r (List.mem_of_getElem? hx)
    · cases h
theorem rising_made {l : List R3} (h : ofE l = 0) : ∀ r ∈ ofC l, Rising r := by
  obtain ⟨hn, hc, ho, _⟩ := made h
  refine rising_all (fun x hx => (fits_all hc hn hx).2.2.2.2.1) (fun r hr => ?_) ho
  obtain ⟨i, hi⟩ := List.mem_iff_getElem?.1 hr
  have hlt := lt_of_get hi
  rw [zerosT_len] at hlt
  rw [zerosT_get hlt] at hi
  cases hi
  intro k v u hv hu
  rw [List.getElem?_replicate] at hv hu
  split at hv <;> split at hu <;> simp_all
end Go.Proofs.YtmfohnchnbgbaaaGreatDoor

/- The triangle of rows as one value; it hangs not on their order. -/
namespace Go.Proofs.YtmfohnchnbgbaaaGreatDoor
open Go.RowKit

section
variable {w0 w : World} {A : Option Addr} {n cap : Nat} {l : List R3}
end
/-- What was booked for a cell. -/
def tot (f : Int) : List R3 → Nat → Nat → Int
  | [], _, _ => 0
  | x :: l, i, k => (if idxO f x = i ∧ devO x ≤ (k : Int) then x.m else 0) + tot f l i k
theorem own_of_blk {W : World} {g B : Nat} {e : TypeId} {sz : Nat} (h : Blk W g e #[]) (hB : B ≤ g) : OwnS W B e sz (some ⟨g, 0, none⟩) 0 0 [] :=
  ⟨⟨by simp, .inr ⟨g, 0, #[], rfl, hB, h, Nat.le_refl _, Nat.zero_le _, by simp, by simp⟩⟩, rfl, RowsOk.nil_⟩
end Go.Proofs.YtmfohnchnbgbaaaGreatDoor

/- Whether a version, and a tariff, may be: the document's Version; the program's Right. -/
namespace Go.Proofs.YtmfohnchnbgbaaaGreatDoor
open Go.RowKit

/-! ### Which tariffs may be -/
theorem Sl.vw {w : World} {B k : Nat} {A : Option Addr} {M : List Vw} {x : Vw} (h : Sl w B 9 A (M.map encV)) (hx : M[k]? = some x) :
    ∃ b off, A = some ⟨b, off, none⟩ ∧ b < B ∧ w.cell? ⟨b, off + k * 9, none⟩ = some (.int .i64 x.f) ∧ w.cell? ⟨b, off + k * 9 + 1, none⟩ = some (.int .i64 x.b0) ∧ w.cell? ⟨b, off + k * 9 + 2, none⟩ = some (.int .i64 x.b1) ∧
      w.cell? ⟨b, off + k * 9 + 3, none⟩ = some (.int .i64 x.b2) ∧ w.cell? ⟨b, off + k * 9 + 4, none⟩ = some (.int .i64 x.b3) ∧ w.cell? ⟨b, off + k * 9 + 5, none⟩ = some (.slice x.aA x.age.length x.aC) ∧
      w.cell? ⟨b, off + k * 9 + 6, none⟩ = some (.slice x.zA x.zone.length x.zC) ∧ w.cell? ⟨b, off + k * 9 + 7, none⟩ = some (.slice x.pA x.peril.length x.pC) ∧ w.cell? ⟨b, off + k * 9 + 8, none⟩ = some (.int .i64 x.mn) := by
  obtain ⟨b, off, hA, hb, hc⟩ := h k (encV x) (by simp [hx])
  exact ⟨b, off, hA, hb, hc 0 _ rfl, hc 1 _ rfl, hc 2 _ rfl, hc 3 _ rfl, hc 4 _ rfl, hc 5 _ rfl, hc 6 _ rfl, hc 7 _ rfl, hc 8 _ rfl⟩
theorem allV_get {M : List Vw} {k : Nat} {x : Vw} (h : M[k]? = some x) : (allV M)[k]? = some x.v := by simp [allV, h]
end Go.Proofs.YtmfohnchnbgbaaaGreatDoor

/- Copies: of factors, of bands, of versions; a version of its own. -/
namespace Go.Proofs.YtmfohnchnbgbaaaGreatDoor
open Go.RowKit

theorem elBand : ElT Tryz.prog 112 228 2 16 := ElT.mk' (z := .agg #[.int .i64 0, .int .i64 0]) Tryz.underlying112 (by kernel_rfl) rfl (by omega)
theorem okBd (l : List Bd) : RowsOk 2 (l.map encBd) := by
  intro r hr
  obtain ⟨x, _, rfl⟩ := List.mem_map.1 hr
  refine ⟨rfl, fun u hu => ?_⟩
  simp [encBd] at hu
  rcases hu with rfl | rfl <;> rfl
/-- What a copy is: a slice of the call's own, with the same rows; nil of nil. -/
def CopyP (w : World) (e : TypeId) (sz n : Nat) (rows : List (List Value)) (en : Ending) (w' : World) : Prop :=
  ∃ A' c', en = .returned (.slice A' n c') ∧ OwnS w' w.heap.size e sz A' n c' rows ∧ Below w.heap.size w w'
set_option maxHeartbeats 1000000 in
theorem cloneI_any (A : Option Addr) (n cap : Nat) (l : List Int) (w : World) (hs : SV w 1 A n cap (l.map encI)) (hm : n ≤ 1000000) :
    Calls Tryz.prog 123 #[.slice A n cap] w (CopyP w 3 1 n (l.map encI)) := by
  have hq := fun (W : World) => Lib.run_eql_slice_nil (P := Tryz.prog) W 36 3 A n cap 0 0 Tryz.underlying36
  have hn : l.length = n := by have := hs.len; simpa using this
  have HS := hide hs
  have HN := hide hn
  clear hs hn
  cases A with
  | none =>
    have h0 : n = 0 := by have := HS.out.nil rfl; have := HS.out.le; omega
    have hc0 : cap = 0 := HS.out.nil rfl
    have hl : l = [] := List.eq_nil_of_length_eq_zero (by rw [HN.out]; exact h0)
    subst hl h0 hc0
    go_enter Tryz.func123, Tryz.ntmps123
    go_wp2_with fail
    go_ret
    exact ⟨none, 0, rfl, OwnS.nil_ _ _ _ _, Below.refl _ _⟩
  | some a =>
    go_enter Tryz.func123, Tryz.ntmps123
    go_wp2_with (at_builtin
                 refine wpList_app rfl (.tmp 5) (.tmp 6) 36 rfl elInt (B := w.heap.size) (A := some ⟨_, 0, none⟩) (rows := []) (news := l.map encI) rfl (own_of_blk (Blk.new _ _ _) (Nat.le_refl _)) rfl (by simp; exact HN.out) ?_ (okI l) ?_ ?_ ?_ ?_
                 · exact (HS.out.sl.below ((Below.refl _ _).alloc (Nat.le_refl _) _)).more (by simp)
                 · simp only [maxLen]; omega
                 · omega
                 · simp
                 intro A1 c1 wa ho1 hg1 ha1
                 rw [Nat.zero_add, List.nil_append] at ho1
                 have hba : Below w.heap.size w wa := ((Below.refl _ _).alloc (Nat.le_refl _) _).grown hg1 (by simp) (fun kk hk => by simp [blk] at hk; omega)
                 have HO := hide ho1
                 clear hg1 ha1 ho1)
    go_ret
    exact ⟨A1, c1, by simp, HO.out, hba⟩
set_option maxHeartbeats 1000000 in
theorem cloneB_any (A : Option Addr) (n cap : Nat) (l : List Bd) (w : World) (hs : SV w 2 A n cap (l.map encBd)) (hm : n ≤ 1000000) :
    Calls Tryz.prog 122 #[.slice A n cap] w (CopyP w 228 2 n (l.map encBd)) := by
  have hq := fun (W : World) => Lib.run_eql_slice_nil (P := Tryz.prog) W 112 228 A n cap 0 0 Tryz.underlying112
  have hn : l.length = n := by have := hs.len; simpa using this
  have HS := hide hs
  have HN := hide hn
  clear hs hn
  cases A with
  | none =>
    have h0 : n = 0 := by have := HS.out.nil rfl; have := HS.out.le; omega
    have hc0 : cap = 0 := HS.out.nil rfl
    have hl : l = [] := List.eq_nil_of_length_eq_zero (by rw [HN.out]; exact h0)
    subst hl h0 hc0
    go_enter Tryz.func122, Tryz.ntmps122
    go_wp2_with fail
    go_ret
    exact ⟨none, 0, rfl, OwnS.nil_ _ _ _ _, Below.refl _ _⟩
  | some a =>
    go_enter Tryz.func122, Tryz.ntmps122
    go_wp2_with (at_builtin
                 refine wpList_app rfl (.tmp 5) (.tmp 6) 112 rfl elBand (B := w.heap.size) (A := some ⟨_, 0, none⟩) (rows := []) (news := l.map encBd) rfl (own_of_blk (Blk.new _ _ _) (Nat.le_refl _)) rfl (by simp; exact HN.out) ?_ (okBd l) ?_ ?_ ?_ ?_
                 · exact (HS.out.sl.below ((Below.refl _ _).alloc (Nat.le_refl _) _)).more (by simp)
                 · simp only [maxLen]; omega
                 · omega
                 · simp
                 intro A1 c1 wa ho1 hg1 ha1
                 rw [Nat.zero_add, List.nil_append] at ho1
                 have hba : Below w.heap.size w wa := ((Below.refl _ _).alloc (Nat.le_refl _) _).grown hg1 (by simp) (fun kk hk => by simp [blk] at hk; omega)
                 have HO := hide ho1
                 clear hg1 ha1 ho1)
    go_ret
    exact ⟨A1, c1, by simp, HO.out, hba⟩
/-- A slice in a world in which its block lies as it lay. -/
theorem SV.only {w w' : World} {sz n cap : Nat} {A : Option Addr} {rows : List (List Value)} (h : SV w sz A n cap rows) (hk : ∀ b, blk A = some b → w'.heap[b]? = w.heap[b]?) (hsz : w.heap.size ≤ w'.heap.size) : SV w' sz A n cap rows := by
  refine ⟨fun i r hr => ?_, h.len, h.le, h.most, h.nil⟩
  obtain ⟨b, off, hA, hb, hc⟩ := h.sl i r hr
  refine ⟨b, off, hA, by omega, fun j u hu => ?_⟩
  rw [World.cell?_of_block (w := w) (hk b (by rw [hA]; rfl))]
  exact hc j u hu
theorem VOK.only {w w' : World} {x : Vw} (h : VOK w x) (hk : ∀ b, (blk x.aA = some b ∨ blk x.zA = some b ∨ blk x.pA = some b) → w'.heap[b]? = w.heap[b]?) (hsz : w.heap.size ≤ w'.heap.size) : VOK w' x :=
  ⟨h.age.only (fun b hb => hk b (.inl hb)) hsz, h.zone.only (fun b hb => hk b (.inr (.inl hb))) hsz, h.peril.only (fun b hb => hk b (.inr (.inr hb))) hsz⟩
/-- A version stored into a box. -/
def setV (w : World) (g : Nat) (x : Vw) : World := (((((((((w.setCell ⟨g, 0, none⟩ (.int .i64 x.f)).setCell ⟨g, 1, none⟩ (.int .i64 x.b0)).setCell ⟨g, 2, none⟩ (.int .i64 x.b1)).setCell ⟨g, 3, none⟩ (.int .i64 x.b2)).setCell ⟨g, 4, none⟩ (.int .i64 x.b3)).setCell ⟨g, 5, none⟩ (.slice x.aA x.age.length x.aC)).setCell ⟨g, 6, none⟩ (.slice x.zA x.zone.length x.zC)).setCell ⟨g, 7, none⟩ (.slice x.pA x.peril.length x.pC)).setCell ⟨g, 8, none⟩ (.int .i64 x.mn))
theorem setV_other (w : World) (g : Nat) (x : Vw) {b : Nat} (hb : b ≠ g) : (setV w g x).heap[b]? = w.heap[b]? := by
  unfold setV
  rw [heap_setCell_other _ _ _ _ (show b ≠ (⟨g, 8, none⟩ : Addr).block from hb)]
  rw [heap_setCell_other _ _ _ _ (show b ≠ (⟨g, 7, none⟩ : Addr).block from hb)]
  rw [heap_setCell_other _ _ _ _ (show b ≠ (⟨g, 6, none⟩ : Addr).block from hb)]
  rw [heap_setCell_other _ _ _ _ (show b ≠ (⟨g, 5, none⟩ : Addr).block from hb)]
  rw [heap_setCell_other _ _ _ _ (show b ≠ (⟨g, 4, none⟩ : Addr).block from hb)]
  rw [heap_setCell_other _ _ _ _ (show b ≠ (⟨g, 3, none⟩ : Addr).block from hb)]
  rw [heap_setCell_other _ _ _ _ (show b ≠ (⟨g, 2, none⟩ : Addr).block from hb)]
  rw [heap_setCell_other _ _ _ _ (show b ≠ (⟨g, 1, none⟩ : Addr).block from hb)]
  rw [heap_setCell_other _ _ _ _ (show b ≠ (⟨g, 0, none⟩ : Addr).block from hb)]
theorem setV_blk {w : World} {g : Nat} {a0 a1 a2 a3 a4 a5 a6 a7 a8 : Value} (x : Vw) (h : Blk w g 114 #[a0, a1, a2, a3, a4, a5, a6, a7, a8]) : Blk (setV w g x) g 114 (boxV x) := by
  have h2 := (((((((((h.set_ 0 (.int .i64 x.f)).set_ 1 (.int .i64 x.b0)).set_ 2 (.int .i64 x.b1)).set_ 3 (.int .i64 x.b2)).set_ 4 (.int .i64 x.b3)).set_ 5 (.slice x.aA x.age.length x.aC)).set_ 6 (.slice x.zA x.zone.length x.zC)).set_ 7 (.slice x.pA x.peril.length x.pC)).set_ 8 (.int .i64 x.mn))
  simpa [setV, boxV] using h2
theorem setV_below {B : Nat} {a w : World} {g : Nat} (x : Vw) (h : Below B a w) (hg : B ≤ g) : Below B a (setV w g x) := (((((((((h.setCell (p := ⟨g, 0, none⟩) hg _).setCell (p := ⟨g, 1, none⟩) hg _).setCell (p := ⟨g, 2, none⟩) hg _).setCell (p := ⟨g, 3, none⟩) hg _).setCell (p := ⟨g, 4, none⟩) hg _).setCell (p := ⟨g, 5, none⟩) hg _).setCell (p := ⟨g, 6, none⟩) hg _).setCell (p := ⟨g, 7, none⟩) hg _).setCell (p := ⟨g, 8, none⟩) hg _)
end Go.Proofs.YtmfohnchnbgbaaaGreatDoor

/- The order of changes, where there is one at most. -/
namespace Go.Proofs.YtmfohnchnbgbaaaGreatDoor
open Go.RowKit

theorem ins_small (A : Option Addr) (n cap : Nat) (f : Value) (w : World) (hn : n ≤ 1) :
    Calls Tryz.prog 169 #[.slice A n cap, .int .i64 0, .int .i64 n, f] w fun e w' => e = .returned (.tuple #[]) ∧ w' = w := by
  go_enter Tryz.func169, Tryz.ntmps169
  go_wp2_with fail
  go_loop [8] (fun i => i = .int .i64 1) (fun _ => 0)
  case atStart => rfl
  case round =>
    subst hrel
    go_wp2_with fail
    go_end0
    exact ⟨rfl, rfl⟩
theorem stable_small (A : Option Addr) (n cap : Nat) (f : Value) (w : World) (hn : n ≤ 1) :
    Calls Tryz.prog 125 #[.slice A n cap, f] w fun e w' => e = .returned (.tuple #[]) ∧ w' = w := by
  have key : Calls Tryz.prog 153 #[.slice A n cap, .int .i64 n, f] w fun e w' => e = .returned (.tuple #[]) ∧ w' = w := by
    go_enter Tryz.func153, Tryz.ntmps153
    go_wp2_with fail
    go_loop [7, 8] (fun a b => a = .int .i64 0 ∧ b = .int .i64 20) (fun _ _ => 0)
    case atStart => exact ⟨rfl, rfl⟩
    case round =>
      obtain ⟨rfl, rfl⟩ := hrel
      go_wp2_with fail
      refine (ins_small A n cap f w hn).mono ?_
      rintro e w' ⟨rfl, rfl⟩
      go_wp2_with fail
      go_loop [6] (fun b => b = .int .i64 20) (fun _ => 0)
      case atStart => rfl
      case round =>
        subst hrel
        go_wp2_with fail
        go_end0
        exact ⟨rfl, rfl⟩
  go_enter Tryz.func125, Tryz.ntmps125
  go_wp2_with fail
  refine key.mono ?_
  rintro e w' ⟨rfl, rfl⟩
  go_wp2_with fail
  go_end0
  exact ⟨rfl, rfl⟩
/-- The places of changes, in order. -/
def encN (k : Nat) : List Value := [.int .i64 k]
def OrdP (O : List Nat) (w : World) (e : Ending) (w' : World) : Prop := ∃ (A : Option Addr) (cap : Nat), e = .returned (.slice A O.length cap) ∧ SV w' 1 A O.length cap (O.map encN) ∧ (∀ b, blk A = some b → w.heap.size ≤ b ∧ b < w'.heap.size) ∧ Below w.heap.size w w'
theorem okN (l : List Nat) : RowsOk 1 (l.map encN) := by
  intro r hr
  obtain ⟨x, -, rfl⟩ := List.mem_map.1 hr
  exact ⟨rfl, fun u hu => by simp [encN] at hu; subst hu; rfl⟩
set_option maxRecDepth 100000 in
set_option maxHeartbeats 1000000 in
theorem order_small (h : Hi) (w : World) (hn1 : h.cs.length ≤ 1) (hc : h.cs.length ≤ h.cap) :
    Calls Tryz.prog 74 #[.agg #[.int .i64 h.id, .int .i64 h.bk, .int .i64 h.tm.f, .int .i64 h.tm.t, .int .i64 h.tm.k, .int .i64 h.tm.v, .int .i64 h.tm.a, .int .i64 h.tm.z, .slice h.tm.A h.tm.l.length h.tm.cap, .slice h.A h.cs.length h.cap]] w (OrdP (List.range h.cs.length) w) := by
  have hmf : ∀ (fn : Fn) (first cap : Array Value) (w : World), (Instr.makeFunc fn first cap).run Tryz.prog w = .ok (.func fn first cap) w := fun _ _ _ _ => rfl
  obtain ⟨n, hn⟩ : ∃ n, h.cs.length = n := ⟨_, rfl⟩
  rw [hn] at hn1 hc
  have HN := hide hn
  obtain ⟨w1, hw1⟩ : ∃ W, w.alloc (.cells (hiC h) 64) = W := ⟨_, rfl⟩
  have hB : Blk w1 w.heap.size 64 (hiC h) := by rw [← hw1]; exact Blk.new _ _ _
  have hb1 : Below w.heap.size w w1 := by rw [← hw1]; exact (Below.refl _ _).alloc (Nat.le_refl _) _
  have z9 := (hi_cells hB).2.2.2.2.2.2.2.2.2
  have lt0 := hB.lt
  have H1 := hide hb1
  have HW := hide hw1
  clear hB hb1 hw1 hn
  go_enter Tryz.func74, Tryz.ntmps74
  go_upto_region 1 with fail
  rw [show w.alloc (.cells #[.int .i64 h.id, .int .i64 h.bk, .int .i64 h.tm.f, .int .i64 h.tm.t, .int .i64 h.tm.k, .int .i64 h.tm.v, .int .i64 h.tm.a, .int .i64 h.tm.z, .slice h.tm.A h.tm.l.length h.tm.cap, .slice h.A h.cs.length h.cap] 64) = w1 from HW.out]
  rw [show h.cs.length = n from HN.out] at z9 ⊢
  go_wp2_with fail
  go_loopw [3, 8] (fun t i wr => ∃ (k : Nat) (A' : Option Addr) (cap' : Nat), k ≤ n ∧ i = .int .i64 k ∧ t = .slice A' k cap' ∧ OwnS wr w1.heap.size 3 1 A' k cap' ((List.range k).map encN) ∧ Below w1.heap.size w1 wr) (fun _ i _ => n - (RowKit.intOf i).toNat)
  case atStart => exact ⟨0, none, 0, Nat.zero_le _, rfl, rfl, OwnS.nil_ _ _ _ _, Below.refl _ _⟩
  case round =>
    obtain ⟨k, A', cap', hk, rfl, rfl, ho, hb⟩ := hrel
    have HO := hide ho
    have hsz := hb.size
    clear ho
    by_cases hlt : k < n
    · have hk0 : (0 : Int) ≤ (k : Int) := by omega
      have hk1 : (k : Int) < (n : Int) := by omega
      go_wp2_with (at_builtin
                   refine wpList_app rfl (.tmp 11) (.tmp 13) 36 rfl elInt (B := w1.heap.size) (A2 := some ⟨_, 0, none⟩) (news := [k].map encN) rfl (HO.out.alloc _) rfl rfl ?_ (okN [k]) ?_ ?_ ?_ ?_
                   · exact sl_of_blk (cs := #[.int .i64 k]) (Blk.new _ _ _)
                   · simp only [maxLen]; omega
                   · omega
                   · simp; omega
                   intro A1 c1 wa ho1 hg1 ha1
                   have hba : Below w1.heap.size w1 wa := (hb.alloc hb.size _).grown hg1 (by simp; omega) (fun kk hk => (HO.out.lt kk hk).1)
                   clear hg1 ha1)
      go_roundw
      case rel => exact ⟨k + 1, A1, c1, by omega, by go_num, rfl, by rw [List.range_succ, List.map_append]; exact ho1, hba⟩
      case measure => simp [RowKit.intOf]; omega
    · obtain rfl : k = n := by omega
      have HB := hide hb
      clear hb
      go_wp2_with fail
      refine (stable_small A' k cap' _ _ hn1).mono ?_
      rintro e w' ⟨rfl, rfl⟩
      go_wp2_with fail
      go_ret
      exact ⟨A', cap', by rw [List.length_range, HN.out]; rfl, by rw [List.length_range, HN.out]; exact HO.out.sv, fun b hb => by have := HO.out.lt b hb; omega, chain H1.out HB.out⟩
end Go.Proofs.YtmfohnchnbgbaaaGreatDoor
