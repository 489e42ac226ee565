/- Part 18 of the proof. -/
import Derived.WalkSpells
import Derived.Test.YtmfohnchnbgbaaaGreatKnM03
import Derived.Test.YtmfohnchnbgbaaaGreatKnM06
import Derived.Test.YtmfohnchnbgbaaaGreatKnM17
/- The triangle of rows as one value; it hangs not on their order. -/
namespace Go.Proofs.YtmfohnchnbgbaaaGreat
open Go.RowKit

def ofF (l : List R3) : Int := if ofE l = 0 then fromL l else 0
def ofM (l : List R3) : List (List Int) := if ofE l = 0 then ofC l else []
section
variable {w0 w : World} {A : Option Addr} {n cap : Nat} {l : List R3}
def OfG (w0 w : World) (f : Int) (C : List (List Int)) (m : Nat) (E : Int) (e : Ending) (w' : World) : Prop :=
  ∃ A' c' R, e = .returned (.tuple #[.agg #[.int .i64 f, .slice A' m c'], .int .i64 E]) ∧ MV w' A' m c' R ∧ allM R = C ∧ FreshT w A' R ∧ Below w0.heap.size w0 w' ∧ Below w.heap.size w w'
theorem mv_nil (w : World) : MV w none 0 0 [] := ⟨sv_nil _ 1, fun r hr => by simp at hr⟩
theorem of_g {f E : Int} {C : List (List Int)} {m : Nat} (hs : SV w0 3 A n cap (l.map enc3)) (hb : Below w0.heap.size w0 w) (hE : ofE l = E) (hf : ofF l = f) (hC : ofM l = C) (hm : C.length = m) :
    Calls Tryz.prog 11 #[.slice A n cap] w (OfG w0 w f C m E) := by
  by_cases h0 : ofE l = 0
  · rw [ofF, if_pos h0] at hf
    rw [ofM, if_pos h0] at hC
    rw [h0] at hE; subst hE
    exact (of_yes hs hb h0 hf hC hm).mono fun _ _ h => h
  · rw [ofF, if_neg h0] at hf
    rw [ofM, if_neg h0] at hC
    subst hf hC hm
    exact (of_no hs hb hE (by rw [← hE]; exact h0)).mono fun _ w' ⟨he, h⟩ => ⟨none, 0, [], he, mv_nil w', rfl, ⟨fun kk hk => (by cases hk), fun r hr => (by simp at hr)⟩, h⟩
end
theorem ofF_ok {l : List R3} : ok64 (ofF l) := by
  unfold ofF ok64
  split
  · rename_i h
    obtain ⟨_, _, _, _, _, _, _, h1, h2, _⟩ := made h
    omega
  · omega
theorem ofM_len {l : List R3} : (ofM l).length ≤ 20 := by
  unfold ofM
  split
  · rename_i h
    obtain ⟨_, _, _, _, _, _, h1, _, _, h2⟩ := made h
    omega
  · simp

/-- What was booked for a cell. -/
def tot (f : Int) : List R3 → Nat → Nat → Int
  | [], _, _ => 0
  | x :: l, i, k => (if idxO f x = i ∧ devO x ≤ (k : Int) then x.m else 0) + tot f l i k
theorem tot_perm {f : Int} {l l' : List R3} (h : l.Perm l') (i k : Nat) : tot f l i k = tot f l' i k := by
  induction h with
  | nil => rfl
  | cons x _ ih => rw [tot, tot, ih]
  | swap x y l => rw [tot, tot, tot, tot]; omega
  | trans _ _ h1 h2 => rw [h1, h2]
theorem tot_pos {f : Int} {i k : Nat} : ∀ {l : List R3}, (∀ x ∈ l, 0 ≤ x.m) → 0 ≤ tot f l i k
  | [], _ => by simp [tot]
  | x :: l, h => by
    have h1 := h x (by simp)
    have h2 := tot_pos (f := f) (i := i) (k := k) (l := l) (fun y hy => h y (by simp [hy]))
    rw [tot]; split <;> omega
/-- Each cell, behind one row. -/
theorem cell_step {f : Int} {c : List (List Int)} {x : R3} {i k : Nat} {r : List Int} {v : Int} (hr : c[i]? = some r) (hv : r[k]? = some v) :
    ∃ r', (c.set (idxO f x) (rowO f c x))[i]? = some r' ∧ r'[k]? = some (v + (if idxO f x = i ∧ devO x ≤ (k : Int) then x.m else 0)) := by
  rw [List.getElem?_set]
  by_cases e : idxO f x = i
  · subst e
    refine ⟨rowO f c x, by rw [if_pos rfl, if_pos (lt_of_get hr)], ?_⟩
    have er : c.getD (idxO f x) [] = r := by rw [List.getD_eq_getElem?_getD, hr]; rfl
    rw [rowO, er, moreL_get hv, moreF]
    by_cases hd : devO x ≤ (k : Int)
    · rw [if_pos hd, if_pos ⟨rfl, hd⟩]
    · rw [if_neg hd, if_neg (fun h => hd h.2)]; simp
  · refine ⟨r, by rw [if_neg e]; exact hr, ?_⟩
    rw [if_neg (fun h => e h.1), hv]; simp
theorem cell_all {f : Int} : ∀ {l : List R3} {c c' : List (List Int)} {i k : Nat} {r : List Int} {v : Int}, putAll f c l = some c' → c[i]? = some r → r[k]? = some v → ∃ r', c'[i]? = some r' ∧ r'[k]? = some (v + tot f l i k)
  | [], c, c', i, k, r, v, h, hr, hv => by
    simp [putAll] at h; subst h
    exact ⟨r, hr, by rw [tot, Int.add_zero]; exact hv⟩
  | x :: l, c, c', i, k, r, v, h, hr, hv => by
    rw [putAll] at h
    split at h
    · obtain ⟨r1, h1, h2⟩ := cell_step (f := f) (x := x) hr hv
      obtain ⟨r2, h3, h4⟩ := cell_all h h1 h2
      refine ⟨r2, h3, ?_⟩
      rw [h4, tot]; congr 1; omega
    · cases h
/-- Where no cell would be too great, the rows are put. -/
theorem puts_all {f : Int} {n : Nat} : ∀ {l : List R3} {c : List (List Int)}, Shape n c → (∀ x ∈ l, 0 ≤ x.m) → (∀ (i k : Nat) (r : List Int) (v : Int), c[i]? = some r → r[k]? = some v → v + tot f l i k ≤ 100000000000000000) → ∃ c', putAll f c l = some c'
  | [], c, _, _, _ => ⟨c, rfl⟩
  | x :: l, c, hs, hm, hb => by
    have hpos := fun (i k : Nat) => tot_pos (f := f) (i := i) (k := k) (l := l) (fun y hy => hm y (by simp [hy]))
    have hc : capB (rowO f c x) = true := by
      rw [rowO, List.getD_eq_getElem?_getD]
      cases hr : c[idxO f x]? with
      | none => rfl
      | some r =>
        refine capB_yes (fun v hv => ((hs.2 _ _ hr).2 v hv).2) (fun j v hd hv => ?_)
        have := hb (idxO f x) j r v hr hv
        rw [tot, if_pos ⟨rfl, hd⟩] at this
        have := hpos (idxO f x) j
        omega
    rw [putAll, if_pos hc]
    refine puts_all (shape_step hs (hm x (by simp)) hc) (fun y hy => hm y (by simp [hy])) (fun i k r' v' hr' hv' => ?_)
    have hi := lt_of_get hr'
    rw [List.length_set] at hi
    obtain ⟨r, hr⟩ := get_of hi
    have hk := lt_of_get hv'
    have hl := ((shape_step hs (hm x (by simp)) hc).2 i r' hr').1
    have hl2 := (hs.2 i r hr).1
    obtain ⟨v, hv⟩ := get_of (l := r) (k := k) (by omega)
    obtain ⟨r2, h1, h2⟩ := cell_step (f := f) (x := x) hr hv
    rw [hr'] at h1; cases h1
    rw [hv'] at h2; cases h2
    have := hb i k r v hr hv
    rw [tot] at this
    omega
theorem shape_ext {n : Nat} {c d : List (List Int)} (hc : Shape n c) (hd : Shape n d) (h : ∀ (i k : Nat) (r s : List Int) (v u : Int), c[i]? = some r → d[i]? = some s → r[k]? = some v → s[k]? = some u → v = u) : c = d := by
  apply List.ext_getElem?
  intro i
  by_cases hi : i < n
  · obtain ⟨r, hr⟩ := get_of (l := c) (k := i) (by rw [hc.1]; exact hi)
    obtain ⟨s, hs⟩ := get_of (l := d) (k := i) (by rw [hd.1]; exact hi)
    have h1 := (hc.2 i r hr).1
    have h2 := (hd.2 i s hs).1
    rw [hr, hs]
    congr 1
    apply List.ext_getElem?
    intro k
    by_cases hk : k < n - i
    · obtain ⟨v, hv⟩ := get_of (l := r) (k := k) (by omega)
      obtain ⟨u, hu⟩ := get_of (l := s) (k := k) (by omega)
      rw [hv, hu, h i k r s v u hr hs hv hu]
    · rw [List.getElem?_eq_none (by omega), List.getElem?_eq_none (by omega)]
  · rw [List.getElem?_eq_none (by rw [hc.1]; omega), List.getElem?_eq_none (by rw [hd.1]; omega)]
theorem from_perm {l l' : List R3} (h : l.Perm l') : fromL l = fromL l' := by
  unfold fromL
  exact h.foldl_eq' (fun x _ y _ z => by omega) _
theorem to_perm {l l' : List R3} (h : l.Perm l') : toL l = toL l' := by
  unfold toL
  exact h.foldl_eq' (fun x _ y _ z => by omega) _
theorem ofE_perm0 {l l' : List R3} (h : l.Perm l') (h0 : ofE l = 0) : ofE l' = 0 ∧ ofC l' = ofC l := by
  obtain ⟨hn, hc, hb, _⟩ := ofE_zero h0
  obtain ⟨_, _, ho, hs, _⟩ := made h0
  have hf := from_perm h
  have ht := to_perm h
  have hy : yearsN l' = yearsN l := by unfold yearsN; rw [hf, ht]
  have hn' : l' ≠ [] := fun e => hn (by subst e; exact List.Perm.eq_nil h)
  have hc' : chkL l' = 0 := chkL_ok.2 (fun x hx => chkL_ok.1 hc x (h.mem_iff.2 hx))
  have hm : ∀ x ∈ l', 0 ≤ x.m := fun x hx => (chk_ok (chkL_ok.1 hc' x hx)).2.2.2.1
  have hput : ∃ c', putAll (fromL l) (zerosT (yearsN l)) l' = some c' := by
    refine puts_all (shape_zeros _) hm (fun i k r v hr hv => ?_)
    rw [← tot_perm h]
    obtain ⟨r2, h1, h2⟩ := cell_all ho hr hv
    exact ((hs.2 i r2 h1).2 _ (List.mem_of_getElem? h2)).2
  obtain ⟨c', hp⟩ := hput
  have ho' : ofO l' = some c' := by unfold ofO; rw [← hf, hy]; exact hp
  have hs' : Shape (yearsN l) c' := shape_all (shape_zeros _) hm hp
  have hcc : c' = ofC l := by
    refine shape_ext hs' hs (fun i k r s v u hr hs2 hv hu => ?_)
    have hi := lt_of_get hr
    rw [hs'.1] at hi
    have hz := zerosT_get hi
    have hk := lt_of_get hv
    rw [(hs'.2 i r hr).1] at hk
    have hzk : (List.replicate (yearsN l - i) (0 : Int))[k]? = some 0 := by rw [List.getElem?_replicate, if_pos hk]
    obtain ⟨r1, a1, a2⟩ := cell_all hp hz hzk
    obtain ⟨r2, b1, b2⟩ := cell_all ho hz hzk
    rw [hr] at a1; cases a1
    rw [hs2] at b1; cases b1
    rw [hv] at a2; cases a2
    rw [hu] at b2; cases b2
    rw [tot_perm h]
  refine ⟨ofE_ok hn' hc' ?_ ho', by rw [ofC, ho', ← hcc]; rfl⟩
  rw [← hf, ← ht, ← h.length_eq]
  exact hb
theorem of_perm {l l' : List R3} (h : l.Perm l') : (ofE l' = 0 ↔ ofE l = 0) ∧ ofF l' = ofF l ∧ ofM l' = ofM l := by
  have h1 : ofE l' = 0 ↔ ofE l = 0 := ⟨fun e => (ofE_perm0 h.symm e).1, fun e => (ofE_perm0 h e).1⟩
  refine ⟨h1, ?_, ?_⟩
  · unfold ofF
    by_cases e : ofE l = 0
    · rw [if_pos e, if_pos (h1.2 e), from_perm h]
    · rw [if_neg e, if_neg (fun e' => e (h1.1 e'))]
  · unfold ofM
    by_cases e : ofE l = 0
    · rw [if_pos e, if_pos (h1.2 e), (ofE_perm0 h e).2]
    · rw [if_neg e, if_neg (fun e' => e (h1.1 e'))]
theorem turn_perm (l : List R3) (k : Nat) : l.Perm (l.drop k ++ l.take k) := by
  have := List.perm_append_comm (l₁ := l.take k) (l₂ := l.drop k)
  rwa [List.take_append_drop] at this
theorem el3 : ElT Tryz.prog 27 54 3 24 := ElT.mk' (z := .agg #[.int .i64 0, .int .i64 0, .int .i64 0]) Tryz.underlying27 (by kernel_rfl) rfl (by omega)
theorem own_of_blk {W : World} {g B : Nat} {e : TypeId} {sz : Nat} (h : Blk W g e #[]) (hB : B ≤ g) : OwnS W B e sz (some ⟨g, 0, none⟩) 0 0 [] :=
  ⟨⟨by simp, .inr ⟨g, 0, #[], rfl, hB, h, Nat.le_refl _, Nat.zero_le _, by simp, by simp⟩⟩, rfl, RowsOk.nil_⟩
/-- What stands behind the turned rows' triangle. -/
def TurnRel (w2 : World) (F : Int) (C : List (List Int)) (m : Nat) (E : Int) (t u : Value) (wx : World) : Prop :=
  ∃ Y A' c' R, t = .pointer (some ⟨Y, 0, none⟩) ∧ u = .int .i64 E ∧ Blk wx Y 36 #[.int .i64 F, .slice A' m c'] ∧ MV wx A' m c' R ∧ allM R = C ∧ Below w2.heap.size w2 wx
end Go.Proofs.YtmfohnchnbgbaaaGreat

/- Whether a version, and a tariff, may be: the document's Version; the program's Right. -/
namespace Go.Proofs.YtmfohnchnbgbaaaGreat
open Go.RowKit

/-! ### Which tariffs may be -/
def risesV (last : Int) : List Ver → Bool
  | [] => true
  | v :: r => if v.f ≤ last ∨ versionB v = false then false else risesV v.f r
def rightT (l : List Ver) : Bool := decide (l.length ≤ 100) && risesV 0 l
/-- One version looked at, behind one from the day 'last' on; w0 is the world in which the versions were read. -/
def Bad1 (w0 : World) (L : Nat) (x : Vw) (last : Int) (e : Ending) (w' : World) : Prop :=
  e = .returned (.bool (decide (x.f ≤ last) || !versionB x.v)) ∧ Blk w' L 3 #[.int .i64 x.f] ∧ Below w0.heap.size w0 w'
theorem rises_take : ∀ {l : List Ver} {k : Nat} {x : Ver} {last : Int}, l[k]? = some x → risesV last (l.take (k + 1)) = (risesV last (l.take k) && !(decide (x.f ≤ (((l.take k).getLast?.map (·.f)).getD last)) || !versionB x))
  | [], k, x, last, h => by simp at h
  | v :: r, 0, x, last, h => by
    simp at h; subst h
    simp only [List.take_succ_cons, List.take_zero, risesV, List.getLast?_nil, Option.map_none, Option.getD_none]
    by_cases h1 : v.f ≤ last ∨ versionB v = false
    · rw [if_pos h1]; rcases h1 with h1 | h1 <;> simp [h1]
    · rw [if_neg h1]; simp only [not_or, Bool.not_eq_false] at h1; simp [h1.1, h1.2]
  | v :: r, k + 1, x, last, h => by
    rw [List.take_succ_cons, List.take_succ_cons, risesV, risesV]
    split
    · simp
    · rw [rises_take (l := r) (k := k) (x := x) (last := v.f) (by simpa using h)]
      congr 3
      cases hr : r.take k with
      | nil => simp; rfl
      | cons a t => rw [List.getLast?_cons_cons]; simp [List.getLast?_cons]
theorem rises_no : ∀ {l : List Ver} {k : Nat} {last : Int}, risesV last (l.take k) = false → risesV last l = false
  | [], k, last, h => by simp [risesV] at h
  | v :: r, 0, last, h => by simp [risesV] at h
  | v :: r, k + 1, last, h => by
    rw [List.take_succ_cons, risesV] at h
    rw [risesV]
    split
    · rfl
    · rename_i hn; rw [if_neg hn] at h; exact rises_no h
theorem Sl.vw {w : World} {B k : Nat} {A : Option Addr} {M : List Vw} {x : Vw} (h : Sl w B 9 A (M.map encV)) (hx : M[k]? = some x) :
    ∃ b off, A = some ⟨b, off, none⟩ ∧ b < B ∧ w.cell? ⟨b, off + k * 9, none⟩ = some (.int .i64 x.f) ∧ w.cell? ⟨b, off + k * 9 + 1, none⟩ = some (.int .i64 x.b0) ∧ w.cell? ⟨b, off + k * 9 + 2, none⟩ = some (.int .i64 x.b1) ∧
      w.cell? ⟨b, off + k * 9 + 3, none⟩ = some (.int .i64 x.b2) ∧ w.cell? ⟨b, off + k * 9 + 4, none⟩ = some (.int .i64 x.b3) ∧ w.cell? ⟨b, off + k * 9 + 5, none⟩ = some (.slice x.aA x.age.length x.aC) ∧
      w.cell? ⟨b, off + k * 9 + 6, none⟩ = some (.slice x.zA x.zone.length x.zC) ∧ w.cell? ⟨b, off + k * 9 + 7, none⟩ = some (.slice x.pA x.peril.length x.pC) ∧ w.cell? ⟨b, off + k * 9 + 8, none⟩ = some (.int .i64 x.mn) := by
  obtain ⟨b, off, hA, hb, hc⟩ := h k (encV x) (by simp [hx])
  exact ⟨b, off, hA, hb, hc 0 _ rfl, hc 1 _ rfl, hc 2 _ rfl, hc 3 _ rfl, hc 4 _ rfl, hc 5 _ rfl, hc 6 _ rfl, hc 7 _ rfl, hc 8 _ rfl⟩
theorem allV_get {M : List Vw} {k : Nat} {x : Vw} (h : M[k]? = some x) : (allV M)[k]? = some x.v := by simp [allV, h]
theorem allV_len (M : List Vw) : (allV M).length = M.length := List.length_map _
def lastF (l : List Ver) : Int := (l.getLast?.map (·.f)).getD 0
theorem lastF_take {l : List Ver} {k : Nat} {x : Ver} (h : l[k]? = some x) : lastF (l.take (k + 1)) = x.f := by rw [take_of h, lastF]; simp
end Go.Proofs.YtmfohnchnbgbaaaGreat

/- Copies: of factors, of bands, of versions; a version of its own. -/
namespace Go.Proofs.YtmfohnchnbgbaaaGreat
open Go.RowKit

theorem elBand : ElT Tryz.prog 81 192 2 16 := ElT.mk' (z := .agg #[.int .i64 0, .int .i64 0]) Tryz.underlying81 (by kernel_rfl) rfl (by omega)
theorem elVer : ElT Tryz.prog 66 83 9 120 := ElT.mk' (z := .agg #[.int .i64 0, .int .i64 0, .int .i64 0, .int .i64 0, .int .i64 0, .slice none 0 0, .slice none 0 0, .slice none 0 0, .int .i64 0]) Tryz.underlying66 (by kernel_rfl) rfl (by omega)
theorem okBd (l : List Bd) : RowsOk 2 (l.map encBd) := by
  intro r hr
  obtain ⟨x, _, rfl⟩ := List.mem_map.1 hr
  refine ⟨rfl, fun u hu => ?_⟩
  simp [encBd] at hu
  rcases hu with rfl | rfl <;> rfl
theorem okVs (l : List Vw) : RowsOk 9 (l.map encV) := by
  intro r hr
  obtain ⟨x, _, rfl⟩ := List.mem_map.1 hr
  refine ⟨rfl, fun u hu => ?_⟩
  simp [encV] at hu
  rcases hu with rfl | rfl | rfl | rfl | rfl | rfl | rfl | rfl | rfl <;> rfl
/-- What a copy is: a slice of the call's own, with the same rows; nil of nil. -/
def CopyP (w : World) (e : TypeId) (sz n : Nat) (rows : List (List Value)) (en : Ending) (w' : World) : Prop :=
  ∃ A' c', en = .returned (.slice A' n c') ∧ OwnS w' w.heap.size e sz A' n c' rows ∧ Below w.heap.size w w'
set_option maxHeartbeats 1000000 in
theorem cloneI_any (A : Option Addr) (n cap : Nat) (l : List Int) (w : World) (hs : SV w 1 A n cap (l.map encI)) (hm : n ≤ 1000000) :
    Calls Tryz.prog 93 #[.slice A n cap] w (CopyP w 3 1 n (l.map encI)) := by
  have hq := fun (W : World) => Lib.run_eql_slice_nil (P := Tryz.prog) W 39 3 A n cap 0 0 Tryz.underlying39
  have hn : l.length = n := by have := hs.len; simpa using this
  have HS := hide hs
  have HN := hide hn
  clear hs hn
  cases A with
  | none =>
    have h0 : n = 0 := by have := HS.out.nil rfl; have := HS.out.le; omega
    have hc0 : cap = 0 := HS.out.nil rfl
    have hl : l = [] := List.eq_nil_of_length_eq_zero (by rw [HN.out]; exact h0)
    subst hl h0 hc0
    go_enter Tryz.func93, Tryz.ntmps93
    go_wp2_with fail
    go_ret
    exact ⟨none, 0, rfl, OwnS.nil_ _ _ _ _, Below.refl _ _⟩
  | some a =>
    go_enter Tryz.func93, Tryz.ntmps93
    go_wp2_with (at_builtin
                 refine wpList_app rfl (.tmp 5) (.tmp 6) 39 rfl elInt (B := w.heap.size) (A := some ⟨_, 0, none⟩) (rows := []) (news := l.map encI) rfl (own_of_blk (Blk.new _ _ _) (Nat.le_refl _)) rfl (by simp; exact HN.out) ?_ (okI l) ?_ ?_ ?_ ?_
                 · exact (HS.out.sl.below ((Below.refl _ _).alloc (Nat.le_refl _) _)).more (by simp)
                 · simp only [maxLen]; omega
                 · omega
                 · simp
                 intro A1 c1 wa ho1 hg1 ha1
                 rw [Nat.zero_add, List.nil_append] at ho1
                 have hba : Below w.heap.size w wa := ((Below.refl _ _).alloc (Nat.le_refl _) _).grown hg1 (by simp) (fun kk hk => by simp [blk] at hk; omega)
                 have HO := hide ho1
                 clear hg1 ha1 ho1)
    go_ret
    exact ⟨A1, c1, by simp, HO.out, hba⟩
set_option maxHeartbeats 1000000 in
theorem cloneB_any (A : Option Addr) (n cap : Nat) (l : List Bd) (w : World) (hs : SV w 2 A n cap (l.map encBd)) (hm : n ≤ 1000000) :
    Calls Tryz.prog 92 #[.slice A n cap] w (CopyP w 192 2 n (l.map encBd)) := by
  have hq := fun (W : World) => Lib.run_eql_slice_nil (P := Tryz.prog) W 81 192 A n cap 0 0 Tryz.underlying81
  have hn : l.length = n := by have := hs.len; simpa using this
  have HS := hide hs
  have HN := hide hn
  clear hs hn
  cases A with
  | none =>
    have h0 : n = 0 := by have := HS.out.nil rfl; have := HS.out.le; omega
    have hc0 : cap = 0 := HS.out.nil rfl
    have hl : l = [] := List.eq_nil_of_length_eq_zero (by rw [HN.out]; exact h0)
    subst hl h0 hc0
    go_enter Tryz.func92, Tryz.ntmps92
    go_wp2_with fail
    go_ret
    exact ⟨none, 0, rfl, OwnS.nil_ _ _ _ _, Below.refl _ _⟩
  | some a =>
    go_enter Tryz.func92, Tryz.ntmps92
    go_wp2_with (at_builtin
                 refine wpList_app rfl (.tmp 5) (.tmp 6) 81 rfl elBand (B := w.heap.size) (A := some ⟨_, 0, none⟩) (rows := []) (news := l.map encBd) rfl (own_of_blk (Blk.new _ _ _) (Nat.le_refl _)) rfl (by simp; exact HN.out) ?_ (okBd l) ?_ ?_ ?_ ?_
                 · exact (HS.out.sl.below ((Below.refl _ _).alloc (Nat.le_refl _) _)).more (by simp)
                 · simp only [maxLen]; omega
                 · omega
                 · simp
                 intro A1 c1 wa ho1 hg1 ha1
                 rw [Nat.zero_add, List.nil_append] at ho1
                 have hba : Below w.heap.size w wa := ((Below.refl _ _).alloc (Nat.le_refl _) _).grown hg1 (by simp) (fun kk hk => by simp [blk] at hk; omega)
                 have HO := hide ho1
                 clear hg1 ha1 ho1)
    go_ret
    exact ⟨A1, c1, by simp, HO.out, hba⟩
/-- A slice in a world in which its block lies as it lay. -/
theorem SV.only {w w' : World} {sz n cap : Nat} {A : Option Addr} {rows : List (List Value)} (h : SV w sz A n cap rows) (hk : ∀ b, blk A = some b → w'.heap[b]? = w.heap[b]?) (hsz : w.heap.size ≤ w'.heap.size) : SV w' sz A n cap rows := by
  refine ⟨fun i r hr => ?_, h.len, h.le, h.most, h.nil⟩
  obtain ⟨b, off, hA, hb, hc⟩ := h.sl i r hr
  refine ⟨b, off, hA, by omega, fun j u hu => ?_⟩
  rw [World.cell?_of_block (w := w) (hk b (by rw [hA]; rfl))]
  exact hc j u hu
theorem VOK.only {w w' : World} {x : Vw} (h : VOK w x) (hk : ∀ b, (blk x.aA = some b ∨ blk x.zA = some b ∨ blk x.pA = some b) → w'.heap[b]? = w.heap[b]?) (hsz : w.heap.size ≤ w'.heap.size) : VOK w' x :=
  ⟨h.age.only (fun b hb => hk b (.inl hb)) hsz, h.zone.only (fun b hb => hk b (.inr (.inl hb))) hsz, h.peril.only (fun b hb => hk b (.inr (.inr hb))) hsz⟩
/-- A version stored into a box. -/
def setV (w : World) (g : Nat) (x : Vw) : World := (((((((((w.setCell ⟨g, 0, none⟩ (.int .i64 x.f)).setCell ⟨g, 1, none⟩ (.int .i64 x.b0)).setCell ⟨g, 2, none⟩ (.int .i64 x.b1)).setCell ⟨g, 3, none⟩ (.int .i64 x.b2)).setCell ⟨g, 4, none⟩ (.int .i64 x.b3)).setCell ⟨g, 5, none⟩ (.slice x.aA x.age.length x.aC)).setCell ⟨g, 6, none⟩ (.slice x.zA x.zone.length x.zC)).setCell ⟨g, 7, none⟩ (.slice x.pA x.peril.length x.pC)).setCell ⟨g, 8, none⟩ (.int .i64 x.mn))
theorem setV_other (w : World) (g : Nat) (x : Vw) {b : Nat} (hb : b ≠ g) : (setV w g x).heap[b]? = w.heap[b]? := by
  unfold setV
  rw [heap_setCell_other _ _ _ _ (show b ≠ (⟨g, 8, none⟩ : Addr).block from hb)]
  rw [heap_setCell_other _ _ _ _ (show b ≠ (⟨g, 7, none⟩ : Addr).block from hb)]
  rw [heap_setCell_other _ _ _ _ (show b ≠ (⟨g, 6, none⟩ : Addr).block from hb)]
  rw [heap_setCell_other _ _ _ _ (show b ≠ (⟨g, 5, none⟩ : Addr).block from hb)]
  rw [heap_setCell_other _ _ _ _ (show b ≠ (⟨g, 4, none⟩ : Addr).block from hb)]
  rw [heap_setCell_other _ _ _ _ (show b ≠ (⟨g, 3, none⟩ : Addr).block from hb)]
  rw [heap_setCell_other _ _ _ _ (show b ≠ (⟨g, 2, none⟩ : Addr).block from hb)]
  rw [heap_setCell_other _ _ _ _ (show b ≠ (⟨g, 1, none⟩ : Addr).block from hb)]
  rw [heap_setCell_other _ _ _ _ (show b ≠ (⟨g, 0, none⟩ : Addr).block from hb)]
theorem setV_size (w : World) (g : Nat) (x : Vw) : (setV w g x).heap.size = w.heap.size := by simp [setV]
theorem setV_blk {w : World} {g : Nat} {a0 a1 a2 a3 a4 a5 a6 a7 a8 : Value} (x : Vw) (h : Blk w g 83 #[a0, a1, a2, a3, a4, a5, a6, a7, a8]) : Blk (setV w g x) g 83 (boxV x) := by
  have h2 := (((((((((h.set_ 0 (.int .i64 x.f)).set_ 1 (.int .i64 x.b0)).set_ 2 (.int .i64 x.b1)).set_ 3 (.int .i64 x.b2)).set_ 4 (.int .i64 x.b3)).set_ 5 (.slice x.aA x.age.length x.aC)).set_ 6 (.slice x.zA x.zone.length x.zC)).set_ 7 (.slice x.pA x.peril.length x.pC)).set_ 8 (.int .i64 x.mn))
  simpa [setV, boxV] using h2
theorem setV_below {B : Nat} {a w : World} {g : Nat} (x : Vw) (h : Below B a w) (hg : B ≤ g) : Below B a (setV w g x) := (((((((((h.setCell (p := ⟨g, 0, none⟩) hg _).setCell (p := ⟨g, 1, none⟩) hg _).setCell (p := ⟨g, 2, none⟩) hg _).setCell (p := ⟨g, 3, none⟩) hg _).setCell (p := ⟨g, 4, none⟩) hg _).setCell (p := ⟨g, 5, none⟩) hg _).setCell (p := ⟨g, 6, none⟩) hg _).setCell (p := ⟨g, 7, none⟩) hg _).setCell (p := ⟨g, 8, none⟩) hg _)
end Go.Proofs.YtmfohnchnbgbaaaGreat
