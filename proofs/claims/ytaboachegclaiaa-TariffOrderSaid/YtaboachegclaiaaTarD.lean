/- Copies: of factors, of bands, of versions; a version of its own. -/
import Derived.Test.YtaboachegclaiaaTarC
import Derived.WalkSpells
namespace Go.Proofs.Ytaboachegclaiaa
open Go.RowKit

theorem own_of_blk {W : World} {g B : Nat} {e : TypeId} {sz : Nat} (h : Blk W g e #[]) (hB : B ≤ g) : OwnS W B e sz (some ⟨g, 0, none⟩) 0 0 [] :=
  ⟨⟨by simp, .inr ⟨g, 0, #[], rfl, hB, h, Nat.le_refl _, Nat.zero_le _, by simp, by simp⟩⟩, rfl, RowsOk.nil_⟩
theorem elInt : ElT Try.prog 24 3 1 8 := ElT.mk' (z := .int .i64 0) Try.underlying24 (by kernel_rfl) rfl (by omega)
theorem elBand : ElT Try.prog 23 63 2 16 := ElT.mk' (z := .agg #[.int .i64 0, .int .i64 0]) Try.underlying23 (by kernel_rfl) rfl (by omega)
theorem elVer : ElT Try.prog 27 26 9 120 := ElT.mk' (z := .agg #[.int .i64 0, .int .i64 0, .int .i64 0, .int .i64 0, .int .i64 0, .slice none 0 0, .slice none 0 0, .slice none 0 0, .int .i64 0]) Try.underlying27 (by kernel_rfl) rfl (by omega)
theorem okI (l : List Int) : RowsOk 1 (l.map encI) := by
  intro r hr
  obtain ⟨x, _, rfl⟩ := List.mem_map.1 hr
  refine ⟨rfl, fun u hu => ?_⟩
  simp [encI] at hu
  subst hu; rfl
theorem okBd (l : List Bd) : RowsOk 2 (l.map encBd) := by
  intro r hr
  obtain ⟨x, _, rfl⟩ := List.mem_map.1 hr
  refine ⟨rfl, fun u hu => ?_⟩
  simp [encBd] at hu
  rcases hu with rfl | rfl <;> rfl
theorem okVs (l : List Vw) : RowsOk 9 (l.map encV) := by
  intro r hr
  obtain ⟨x, _, rfl⟩ := List.mem_map.1 hr
  refine ⟨rfl, fun u hu => ?_⟩
  simp [encV] at hu
  rcases hu with rfl | rfl | rfl | rfl | rfl | rfl | rfl | rfl | rfl <;> rfl
theorem sv_nil (w : World) (sz : Nat) : SV w sz none 0 0 [] := ⟨Sl.nil_, rfl, Nat.le_refl _, by simp [maxLen], fun _ => rfl⟩
/-- What a copy is: a slice of the call's own, with the same rows; nil of nil. -/
def CopyP (w : World) (e : TypeId) (sz n : Nat) (rows : List (List Value)) (en : Ending) (w' : World) : Prop :=
  ∃ A' c', en = .returned (.slice A' n c') ∧ OwnS w' w.heap.size e sz A' n c' rows ∧ Below w.heap.size w w'
set_option maxHeartbeats 1000000 in
theorem cloneI_any (A : Option Addr) (n cap : Nat) (l : List Int) (w : World) (hs : SV w 1 A n cap (l.map encI)) (hm : n ≤ 1000000) :
    Calls Try.prog 39 #[.slice A n cap] w (CopyP w 3 1 n (l.map encI)) := by
  have hq := fun (W : World) => Lib.run_eql_slice_nil (P := Try.prog) W 24 3 A n cap 0 0 Try.underlying24
  have hn : l.length = n := by have := hs.len; simpa using this
  have HS := hide hs
  have HN := hide hn
  clear hs hn
  cases A with
  | none =>
    have h0 : n = 0 := by have := HS.out.nil rfl; have := HS.out.le; omega
    have hc0 : cap = 0 := HS.out.nil rfl
    have hl : l = [] := List.eq_nil_of_length_eq_zero (by rw [HN.out]; exact h0)
    subst hl h0 hc0
    go_enter Try.func39, Try.ntmps39
    go_wp2_with fail
    go_ret
    exact ⟨none, 0, rfl, OwnS.nil_ _ _ _ _, Below.refl _ _⟩
  | some a =>
    go_enter Try.func39, Try.ntmps39
    go_wp2_with (at_builtin
                 refine wpList_app rfl (.tmp 5) (.tmp 6) 24 rfl elInt (B := w.heap.size) (A := some ⟨_, 0, none⟩) (rows := []) (news := l.map encI) rfl (own_of_blk (Blk.new _ _ _) (Nat.le_refl _)) rfl (by simp; exact HN.out) ?_ (okI l) ?_ ?_ ?_ ?_
                 · exact (HS.out.sl.below ((Below.refl _ _).alloc (Nat.le_refl _) _)).more (by simp)
                 · simp only [maxLen]; omega
                 · omega
                 · simp
                 intro A1 c1 wa ho1 hg1 ha1
                 rw [Nat.zero_add, List.nil_append] at ho1
                 have hba : Below w.heap.size w wa := ((Below.refl _ _).alloc (Nat.le_refl _) _).grown hg1 (by simp) (fun kk hk => by simp [blk] at hk; omega)
                 have HO := hide ho1
                 clear hg1 ha1 ho1)
    go_ret
    exact ⟨A1, c1, by simp, HO.out, hba⟩
set_option maxHeartbeats 1000000 in
theorem cloneB_any (A : Option Addr) (n cap : Nat) (l : List Bd) (w : World) (hs : SV w 2 A n cap (l.map encBd)) (hm : n ≤ 1000000) :
    Calls Try.prog 38 #[.slice A n cap] w (CopyP w 63 2 n (l.map encBd)) := by
  have hq := fun (W : World) => Lib.run_eql_slice_nil (P := Try.prog) W 23 63 A n cap 0 0 Try.underlying23
  have hn : l.length = n := by have := hs.len; simpa using this
  have HS := hide hs
  have HN := hide hn
  clear hs hn
  cases A with
  | none =>
    have h0 : n = 0 := by have := HS.out.nil rfl; have := HS.out.le; omega
    have hc0 : cap = 0 := HS.out.nil rfl
    have hl : l = [] := List.eq_nil_of_length_eq_zero (by rw [HN.out]; exact h0)
    subst hl h0 hc0
    go_enter Try.func38, Try.ntmps38
    go_wp2_with fail
    go_ret
    exact ⟨none, 0, rfl, OwnS.nil_ _ _ _ _, Below.refl _ _⟩
  | some a =>
    go_enter Try.func38, Try.ntmps38
    go_wp2_with (at_builtin
                 refine wpList_app rfl (.tmp 5) (.tmp 6) 23 rfl elBand (B := w.heap.size) (A := some ⟨_, 0, none⟩) (rows := []) (news := l.map encBd) rfl (own_of_blk (Blk.new _ _ _) (Nat.le_refl _)) rfl (by simp; exact HN.out) ?_ (okBd l) ?_ ?_ ?_ ?_
                 · exact (HS.out.sl.below ((Below.refl _ _).alloc (Nat.le_refl _) _)).more (by simp)
                 · simp only [maxLen]; omega
                 · omega
                 · simp
                 intro A1 c1 wa ho1 hg1 ha1
                 rw [Nat.zero_add, List.nil_append] at ho1
                 have hba : Below w.heap.size w wa := ((Below.refl _ _).alloc (Nat.le_refl _) _).grown hg1 (by simp) (fun kk hk => by simp [blk] at hk; omega)
                 have HO := hide ho1
                 clear hg1 ha1 ho1)
    go_ret
    exact ⟨A1, c1, by simp, HO.out, hba⟩
set_option maxHeartbeats 1000000 in
theorem cloneV_any (A : Option Addr) (n cap : Nat) (l : List Vw) (w : World) (hs : SV w 9 A n cap (l.map encV)) (hm : n ≤ 1000000) :
    Calls Try.prog 33 #[.slice A n cap] w (CopyP w 26 9 n (l.map encV)) := by
  have hq := fun (W : World) => Lib.run_eql_slice_nil (P := Try.prog) W 27 26 A n cap 0 0 Try.underlying27
  have hn : l.length = n := by have := hs.len; simpa using this
  have HS := hide hs
  have HN := hide hn
  clear hs hn
  cases A with
  | none =>
    have h0 : n = 0 := by have := HS.out.nil rfl; have := HS.out.le; omega
    have hc0 : cap = 0 := HS.out.nil rfl
    have hl : l = [] := List.eq_nil_of_length_eq_zero (by rw [HN.out]; exact h0)
    subst hl h0 hc0
    go_enter Try.func33, Try.ntmps33
    go_wp2_with fail
    go_ret
    exact ⟨none, 0, rfl, OwnS.nil_ _ _ _ _, Below.refl _ _⟩
  | some a =>
    go_enter Try.func33, Try.ntmps33
    go_wp2_with (at_builtin
                 refine wpList_app rfl (.tmp 5) (.tmp 6) 27 rfl elVer (B := w.heap.size) (A := some ⟨_, 0, none⟩) (rows := []) (news := l.map encV) rfl (own_of_blk (Blk.new _ _ _) (Nat.le_refl _)) rfl (by simp; exact HN.out) ?_ (okVs l) ?_ ?_ ?_ ?_
                 · exact (HS.out.sl.below ((Below.refl _ _).alloc (Nat.le_refl _) _)).more (by simp)
                 · simp only [maxLen]; omega
                 · omega
                 · simp
                 intro A1 c1 wa ho1 hg1 ha1
                 rw [Nat.zero_add, List.nil_append] at ho1
                 have hba : Below w.heap.size w wa := ((Below.refl _ _).alloc (Nat.le_refl _) _).grown hg1 (by simp) (fun kk hk => by simp [blk] at hk; omega)
                 have HO := hide ho1
                 clear hg1 ha1 ho1)
    go_ret
    exact ⟨A1, c1, by simp, HO.out, hba⟩
/-- A slice in a world in which its block lies as it lay. -/
theorem SV.only {w w' : World} {sz n cap : Nat} {A : Option Addr} {rows : List (List Value)} (h : SV w sz A n cap rows) (hk : ∀ b, blk A = some b → w'.heap[b]? = w.heap[b]?) (hsz : w.heap.size ≤ w'.heap.size) : SV w' sz A n cap rows := by
  refine ⟨fun i r hr => ?_, h.len, h.le, h.most, h.nil⟩
  obtain ⟨b, off, hA, hb, hc⟩ := h.sl i r hr
  refine ⟨b, off, hA, by omega, fun j u hu => ?_⟩
  rw [World.cell?_of_block (w := w) (hk b (by rw [hA]; rfl))]
  exact hc j u hu
theorem VOK.only {w w' : World} {x : Vw} (h : VOK w x) (hk : ∀ b, (blk x.aA = some b ∨ blk x.zA = some b ∨ blk x.pA = some b) → w'.heap[b]? = w.heap[b]?) (hsz : w.heap.size ≤ w'.heap.size) : VOK w' x :=
  ⟨h.age.only (fun b hb => hk b (.inl hb)) hsz, h.zone.only (fun b hb => hk b (.inr (.inl hb))) hsz, h.peril.only (fun b hb => hk b (.inr (.inr hb))) hsz⟩
/-- A version stored into a box. -/
def setV (w : World) (g : Nat) (x : Vw) : World := (((((((((w.setCell ⟨g, 0, none⟩ (.int .i64 x.f)).setCell ⟨g, 1, none⟩ (.int .i64 x.b0)).setCell ⟨g, 2, none⟩ (.int .i64 x.b1)).setCell ⟨g, 3, none⟩ (.int .i64 x.b2)).setCell ⟨g, 4, none⟩ (.int .i64 x.b3)).setCell ⟨g, 5, none⟩ (.slice x.aA x.age.length x.aC)).setCell ⟨g, 6, none⟩ (.slice x.zA x.zone.length x.zC)).setCell ⟨g, 7, none⟩ (.slice x.pA x.peril.length x.pC)).setCell ⟨g, 8, none⟩ (.int .i64 x.mn))
theorem setV_other (w : World) (g : Nat) (x : Vw) {b : Nat} (hb : b ≠ g) : (setV w g x).heap[b]? = w.heap[b]? := by
  unfold setV
  rw [heap_setCell_other _ _ _ _ (show b ≠ (⟨g, 8, none⟩ : Addr).block from hb)]
  rw [heap_setCell_other _ _ _ _ (show b ≠ (⟨g, 7, none⟩ : Addr).block from hb)]
  rw [heap_setCell_other _ _ _ _ (show b ≠ (⟨g, 6, none⟩ : Addr).block from hb)]
  rw [heap_setCell_other _ _ _ _ (show b ≠ (⟨g, 5, none⟩ : Addr).block from hb)]
  rw [heap_setCell_other _ _ _ _ (show b ≠ (⟨g, 4, none⟩ : Addr).block from hb)]
  rw [heap_setCell_other _ _ _ _ (show b ≠ (⟨g, 3, none⟩ : Addr).block from hb)]
  rw [heap_setCell_other _ _ _ _ (show b ≠ (⟨g, 2, none⟩ : Addr).block from hb)]
  rw [heap_setCell_other _ _ _ _ (show b ≠ (⟨g, 1, none⟩ : Addr).block from hb)]
  rw [heap_setCell_other _ _ _ _ (show b ≠ (⟨g, 0, none⟩ : Addr).block from hb)]
theorem setV_size (w : World) (g : Nat) (x : Vw) : (setV w g x).heap.size = w.heap.size := by simp [setV]
theorem setV_blk {w : World} {g : Nat} {a0 a1 a2 a3 a4 a5 a6 a7 a8 : Value} (x : Vw) (h : Blk w g 26 #[a0, a1, a2, a3, a4, a5, a6, a7, a8]) : Blk (setV w g x) g 26 (boxV x) := by
  have h2 := (((((((((h.set_ 0 (.int .i64 x.f)).set_ 1 (.int .i64 x.b0)).set_ 2 (.int .i64 x.b1)).set_ 3 (.int .i64 x.b2)).set_ 4 (.int .i64 x.b3)).set_ 5 (.slice x.aA x.age.length x.aC)).set_ 6 (.slice x.zA x.zone.length x.zC)).set_ 7 (.slice x.pA x.peril.length x.pC)).set_ 8 (.int .i64 x.mn))
  simpa [setV, boxV] using h2
theorem setV_below {B : Nat} {a w : World} {g : Nat} (x : Vw) (h : Below B a w) (hg : B ≤ g) : Below B a (setV w g x) := (((((((((h.setCell (p := ⟨g, 0, none⟩) hg _).setCell (p := ⟨g, 1, none⟩) hg _).setCell (p := ⟨g, 2, none⟩) hg _).setCell (p := ⟨g, 3, none⟩) hg _).setCell (p := ⟨g, 4, none⟩) hg _).setCell (p := ⟨g, 5, none⟩) hg _).setCell (p := ⟨g, 6, none⟩) hg _).setCell (p := ⟨g, 7, none⟩) hg _).setCell (p := ⟨g, 8, none⟩) hg _)
end Go.Proofs.Ytaboachegclaiaa
