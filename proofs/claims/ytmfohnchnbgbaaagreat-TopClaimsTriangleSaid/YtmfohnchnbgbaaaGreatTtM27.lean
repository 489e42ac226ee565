/- Part 27 of the proof. -/
import Derived.Deep.RegionLaw
import Derived.Test.YtmfohnchnbgbaaaGreatTtM01
import Derived.Test.YtmfohnchnbgbaaaGreatTtM07
import Derived.Test.YtmfohnchnbgbaaaGreatTtM10
import Derived.Test.YtmfohnchnbgbaaaGreatTtM12
import Derived.Test.YtmfohnchnbgbaaaGreatTtM26
/- One treaty's place in a heap: tower.Order. -/
namespace Go.Proofs.YtmfohnchnbgbaaaGreat
open Go.RowKit Go.Lib
set_option linter.unusedSimpArgs false

def pRow : List Value := [.int .i64 1, .int .i64 0, .int .i64 0]
theorem elPlc : ElT Tryz.prog 211 213 3 24 := ElT.mk' (z := .agg #[.int .i64 0, .int .i64 0, .int .i64 0]) Tryz.underlying211 (by kernel_rfl) rfl (by omega)
theorem okPlc : RowsOk 3 [pRow] := by
  intro r hr
  obtain rfl := List.mem_singleton.1 hr
  exact ⟨rfl, fun u hu => by simp [pRow] at hu; rcases hu with rfl | rfl <;> rfl⟩
/-- The places in a box: n of them, one at most. -/
structure PlI (B G g n c : Nat) (rows : List (List Value)) (w : World) : Prop where
  bx : Blk w G 211 #[.slice (some ⟨g, 0, none⟩) n c]
  ow : OwnS w B 213 3 (some ⟨g, 0, none⟩) n c rows
  ne : G ≠ g
  ge : B ≤ G
theorem PlI.below {B G g n c : Nat} {rows : List (List Value)} {w w' : World} (h : PlI B G g n c rows w) (hb : Below w.heap.size w w') : PlI B G g n c rows w' := ⟨h.bx.below hb h.bx.lt, h.ow.below hb, h.ne, h.ge⟩
theorem PlI.row {B G g c : Nat} {w : World} (h : PlI B G g 1 c [pRow] w) : w.cell? ⟨g, 0, none⟩ = some (.int .i64 1) ∧ w.cell? ⟨g, 1, none⟩ = some (.int .i64 0) ∧ w.cell? ⟨g, 2, none⟩ = some (.int .i64 0) := by
  obtain ⟨b, off, hA, _, hc⟩ := h.ow.sl 0 pRow rfl
  cases hA
  exact ⟨by simpa using hc 0 _ rfl, by simpa using hc 1 _ rfl, by simpa using hc 2 _ rfl⟩
theorem PlI.lt {B G g n c : Nat} {rows : List (List Value)} {w : World} (h : PlI B G g n c rows w) : B ≤ g ∧ g < w.heap.size ∧ G < w.heap.size := ⟨(h.ow.lt g rfl).1, (h.ow.lt g rfl).2, h.bx.lt⟩

set_option maxRecDepth 100000 in
set_option maxHeartbeats 4000000 in
theorem push_any (B G g c : Nat) (w : World) (h : PlI B G g 0 c [] w) :
    Calls Tryz.prog 233 #[.pointer (some ⟨G, 0, none⟩), .iface 213 (.agg #[.int .i64 1, .int .i64 0, .int .i64 0])] w fun e w' => e = .returned (.tuple #[]) ∧ Below B w w' ∧ ∃ g' c', PlI B G g' 1 c' [pRow] w' := by
  have x0 : w.cell? ⟨G, 0, none⟩ = some (.slice (some ⟨g, 0, none⟩) 0 c) := h.bx.cell 0
  have y0 := h.bx.frozen 0
  have hlt := h.lt
  obtain ⟨hl1, hl2, hl3⟩ := hlt
  have hB : B ≤ w.heap.size := by omega
  have HI := hide h
  have hta : ∀ W : World, (Instr.typeAssert (.iface 213 (.agg #[.int .i64 1, .int .i64 0, .int .i64 0])) 20 213 false).run Tryz.prog W = .ok (.agg #[.int .i64 1, .int .i64 0, .int .i64 0]) W := fun W => by kernel_rfl
  clear h
  go_enter Tryz.func233, Tryz.ntmps233
  go_wp2_with fail
  go_region_law (first
          | (refine step_app rfl (.tmp 7) (.tmp 10) 211 rfl elPlc (B := B) (rows := []) (A2 := some ⟨_, 0, none⟩) (news := [pRow]) rfl ?_ rfl rfl ?_ okPlc ?_ ?_ ?_ ?_
             · first | exact (HI.out.ow.alloc _).drew | exact HI.out.ow.alloc _ | exact HI.out.ow.drew.alloc _
             · first | exact sl_of_blk (cs := #[.int .i64 1, .int .i64 0, .int .i64 0]) (Blk.drew (Blk.new' (by simp))) | exact sl_of_blk (cs := #[.int .i64 1, .int .i64 0, .int .i64 0]) (Blk.new' (by simp))
             · simp [maxLen]
             · omega
             · (simp; try omega)
             intro A3 cp3 wb ho2 hg2 ha2
             obtain ⟨g2, rfl, hgB, hgl⟩ : ∃ g2, A3 = some ⟨g2, 0, none⟩ ∧ B ≤ g2 ∧ g2 < wb.heap.size := by
               rcases ho2.addr with ⟨-, h0, -⟩ | h
               · omega
               · exact h
             have hne : G ≠ g2 := by
               rcases ha2 with h | h
               · have h5 := HI.out.ne
                 simp [blk] at h
                 omega
               · simp [blk] at h
                 omega
             have hbx := hide (((HI.out.bx.alloc _).drew).grown hg2 (fun e => HI.out.ne (by simpa [blk] using e)))
             have HO2 := hide ho2
             have HN2 := hide hne
             have HB2 := hide ((((Below.refl B w).alloc hB _).drew).grown hg2 (by simp; omega) (fun kk hk => (HI.out.ow.lt kk hk).1))
             have y1 := hbx.out.frozen 0
             have z1 := hbx.out.cell 0
             clear ho2 hg2 ha2 hne))
  all_goals
    go_wp2_with fail
    go_end0
    exact ⟨rfl, HB2.out.setCell (p := ⟨G, 0, none⟩) HI.out.ge _, g2, cp3, ⟨hbx.out.set_ 0 _, HO2.out.far (p := ⟨G, 0, none⟩) (fun kk hk => by simp [blk] at hk; have := HN2.out; simp; omega) _, HN2.out, HI.out.ge⟩⟩
theorem m_push (x : Value) (w : World) : (Go.method 427 209 x "Push").run Tryz.prog w = .ok (233, x) w := by kernel_rfl
theorem m_pop (x : Value) (w : World) : (Go.method 427 209 x "Pop").run Tryz.prog w = .ok (232, x) w := by kernel_rfl
theorem m_len {G : Nat} {v : Value} {w : World} (h : w.cell? ⟨G, 0, none⟩ = some v) : (Go.method 427 209 (.pointer (some ⟨G, 0, none⟩)) "Len").run Tryz.prog w = .ok (112, v) w := by
  have e : (Go.method 427 209 (.pointer (some ⟨G, 0, none⟩)) "Len").run Tryz.prog w = (do let x ← loadVar 211 ⟨G, 0, none⟩; pure ((112 : FuncId), x) : Sem (FuncId × Value)).run Tryz.prog w := by kernel_rfl
  rw [e]
  simp [loadVar, go_sem, h]
theorem m_swap {G : Nat} {v : Value} {w : World} (h : w.cell? ⟨G, 0, none⟩ = some v) : (Go.method 427 209 (.pointer (some ⟨G, 0, none⟩)) "Swap").run Tryz.prog w = .ok (234, v) w := by
  have e : (Go.method 427 209 (.pointer (some ⟨G, 0, none⟩)) "Swap").run Tryz.prog w = (do let x ← loadVar 211 ⟨G, 0, none⟩; pure ((234 : FuncId), x) : Sem (FuncId × Value)).run Tryz.prog w := by kernel_rfl
  rw [e]
  simp [loadVar, go_sem, h]
theorem len_any (n c : Nat) (A : Option Addr) (w : World) : Calls Tryz.prog 112 #[.slice A n c] w fun e w' => e = .returned (.int .i64 n) ∧ w' = w := by
  go_enter Tryz.func112, Tryz.ntmps112
  go_wp2
  go_ret
  exact ⟨rfl, rfl⟩
theorem up_any (x : Value) (w : World) : Calls Tryz.prog 163 #[x, .int .i64 0] w fun e w' => e = .returned (.tuple #[]) ∧ w' = w := by
  go_enter Tryz.func163, Tryz.ntmps163
  go_wp2_with fail
  go_loop [1] (fun q => q = .int .i64 0) (fun _ => 0)
  case atStart => rfl
  case round =>
    subst hrel
    go_wp2_with fail
    go_end0
    exact ⟨rfl, rfl⟩
theorem down_any (x : Value) (w : World) : Calls Tryz.prog 164 #[x, .int .i64 0, .int .i64 0] w fun e w' => e = .returned (.bool false) ∧ w' = w := by
  go_enter Tryz.func164, Tryz.ntmps164
  go_wp2_with fail
  go_loop [7] (fun q => q = .int .i64 0) (fun _ => 0)
  case atStart => rfl
  case round =>
    subst hrel
    go_wp2_with fail
    go_ret
    exact ⟨rfl, rfl⟩
set_option maxRecDepth 100000 in
set_option maxHeartbeats 2000000 in
theorem hpush_any (B G g c : Nat) (w : World) (h : PlI B G g 0 c [] w) :
    Calls Tryz.prog 111 #[.iface 209 (.pointer (some ⟨G, 0, none⟩)), .iface 213 (.agg #[.int .i64 1, .int .i64 0, .int .i64 0])] w fun e w' => e = .returned (.tuple #[]) ∧ Below B w w' ∧ ∃ g' c', PlI B G g' 1 c' [pRow] w' := by
  have hm1 := m_push (.pointer (some ⟨G, 0, none⟩)) w
  have HI := hide h
  clear h
  go_enter Tryz.func111, Tryz.ntmps111
  go_wp2_with fail
  refine (push_any B G g c w HI.out).mono ?_
  rintro e w1 ⟨rfl, h1, g1, c1, hI⟩
  have HI1 := hide hI
  have H1 := hide h1
  have hm2 := m_len (G := G) (hI.bx.cell 0)
  clear hI h1
  go_wp2_with fail
  refine (len_any 1 c1 _ w1).mono ?_
  rintro e w2 ⟨rfl, rfl⟩
  go_wp2_with fail
  refine (up_any _ _).mono ?_
  rintro e w2 ⟨rfl, rfl⟩
  go_wp2_with fail
  go_end0
  exact ⟨rfl, H1.out, g1, c1, HI1.out⟩
/-- The place stored anew. -/
def put3 (w : World) (g : Nat) : World := ((w.setCell ⟨g, 0, none⟩ (.int .i64 1)).setCell ⟨g, 1, none⟩ (.int .i64 0)).setCell ⟨g, 2, none⟩ (.int .i64 0)
theorem PlI.drew {B G g n c : Nat} {rows : List (List Value)} {w : World} (h : PlI B G g n c rows w) : PlI B G g n c rows w.drew := h.below (Below.refl _ _).drew
theorem PlI.put {B G g c : Nat} {w : World} (h : PlI B G g 1 c [pRow] w) : PlI B G g 1 c [pRow] (put3 w g) := by
  have h1 := h.ow.set_ (i := 0) (j := 0) (row := pRow) rfl (by omega) (u := .int .i64 1) rfl
  have h2 := h1.set_ (i := 0) (j := 1) (row := pRow) rfl (by omega) (u := .int .i64 0) rfl
  have h3 := h2.set_ (i := 0) (j := 2) (row := pRow) rfl (by omega) (u := .int .i64 0) rfl
  exact ⟨((h.bx.far (p := ⟨g, 0, none⟩) h.ne _).far (p := ⟨g, 1, none⟩) h.ne _).far (p := ⟨g, 2, none⟩) h.ne _, h3, h.ne, h.ge⟩
theorem bel_put3 {B g : Nat} {w w' : World} (h : Below B w w') (hg : B ≤ g) : Below B w (put3 w' g) :=
  ((h.setCell (p := ⟨g, 0, none⟩) hg _).setCell (p := ⟨g, 1, none⟩) hg _).setCell (p := ⟨g, 2, none⟩) hg _
set_option maxRecDepth 100000 in
set_option maxHeartbeats 2000000 in
theorem swapP_any (B G g c : Nat) (w : World) (h : PlI B G g 1 c [pRow] w) :
    Calls Tryz.prog 234 #[.slice (some ⟨g, 0, none⟩) 1 c, .int .i64 0, .int .i64 0] w fun e w' => e = .returned (.tuple #[]) ∧ Below B w w' ∧ PlI B G g 1 c [pRow] w' := by
  obtain ⟨W, hW⟩ : ∃ W, w.drew = W := ⟨_, rfl⟩
  have hb : Below B w W := by rw [← hW]; exact (Below.refl _ _).drew
  have hI : PlI B G g 1 c [pRow] W := by rw [← hW]; exact h.drew
  have HB := hide hb
  have HI := hide hI
  have HW := hide hW
  have hT0 : (fun X : World => X.cell? ⟨g, 0, none⟩ = some (.int .i64 1) ∧ X.cell? ⟨g, 1, none⟩ = some (.int .i64 0) ∧ X.cell? ⟨g, 2, none⟩ = some (.int .i64 0)) W := hI.row
  simp only at hT0
  obtain ⟨d0, d1, d2⟩ := hT0
  have hT0 : (fun X : World => X.cell? ⟨g, 0, none⟩ = some (.int .i64 1) ∧ X.cell? ⟨g, 1, none⟩ = some (.int .i64 0) ∧ X.cell? ⟨g, 2, none⟩ = some (.int .i64 0)) W := ⟨d0, d1, d2⟩
  simp only at hT0
  have f0 : W.frozen? ⟨g, 0, none⟩ = false := hI.ow.frozen 0
  have f1 : W.frozen? ⟨g, 1, none⟩ = false := hI.ow.frozen 1
  have f2 : W.frozen? ⟨g, 2, none⟩ = false := hI.ow.frozen 2
  clear h hb hI hW
  go_enter Tryz.func234, Tryz.ntmps234
  go_wp2_with fail
  refine wp_region_T (fun X : World => X.cell? ⟨g, 0, none⟩ = some (.int .i64 1) ∧ X.cell? ⟨g, 1, none⟩ = some (.int .i64 0) ∧ X.cell? ⟨g, 2, none⟩ = some (.int .i64 0)) [0, 1, 2, 3, 4, 5, 6, 8, 9, 10, 12, 13, 14, 15] rfl (by kernel_rfl) ?_
  rw [HW.out]
  refine wpAnyT_take0 (i := 0) (v := ?_) rfl (by kernel_rfl) (by kernel_rfl) (by kernel_rfl) (by kernel_rfl) (fun _ _ _ h => h) (Or.inl ⟨by rfl, ?_⟩) ?_
  rotate_left
  · intro W hSW
    go_simp
    try with_reducible rfl
  simp only [Act.put, List.setIfInBounds_toArray, List.set_cons_zero, List.set_cons_succ]
  refine wpAnyT_take0 (i := 1) (v := ?_) rfl (by kernel_rfl) (by kernel_rfl) (by kernel_rfl) (by kernel_rfl) (fun _ _ _ h => h) (Or.inl ⟨by rfl, ?_⟩) ?_
  rotate_left
  · intro W hSW
    go_simp
    try with_reducible rfl
  simp only [Act.put, List.setIfInBounds_toArray, List.set_cons_zero, List.set_cons_succ]
  refine wpAnyT_take0 (i := 2) (v := ?_) rfl (by kernel_rfl) (by kernel_rfl) (by kernel_rfl) (by kernel_rfl) (fun _ _ _ h => h) (Or.inl ⟨by rfl, ?_⟩) ?_
  rotate_left
  · intro W hSW
    go_simp
    try with_reducible rfl
  simp only [Act.put, List.setIfInBounds_toArray, List.set_cons_zero, List.set_cons_succ]
  refine wpAnyT_take0 (i := 3) (v := ?_) rfl (by kernel_rfl) (by kernel_rfl) (by kernel_rfl) (by kernel_rfl) (fun _ _ _ h => h) (Or.inl ⟨by rfl, ?_⟩) ?_
  rotate_left
  · intro W hSW
    go_simp
    try with_reducible rfl
  simp only [Act.put, List.setIfInBounds_toArray, List.set_cons_zero, List.set_cons_succ]
  refine wpAnyT_take0 (i := 4) (v := ?_) rfl (by kernel_rfl) (by kernel_rfl) (by kernel_rfl) (by kernel_rfl) (fun _ _ _ h => h) (Or.inl ⟨by rfl, ?_⟩) ?_
  rotate_left
  · intro W hSW
    go_simp
    try with_reducible rfl
  simp only [Act.put, List.setIfInBounds_toArray, List.set_cons_zero, List.set_cons_succ]
  refine wpAnyT_take0 (i := 5) (v := ?_) rfl (by kernel_rfl) (by kernel_rfl) (by kernel_rfl) (by kernel_rfl) (fun _ _ _ h => h) (Or.inl ⟨by rfl, ?_⟩) ?_
  rotate_left
  · intro W hSW
    go_simp
    try with_reducible rfl
  simp only [Act.put, List.setIfInBounds_toArray, List.set_cons_zero, List.set_cons_succ]
  refine wpAnyT_take0 (i := 8) (v := ?_) rfl (by kernel_rfl) (by kernel_rfl) (by kernel_rfl) (by kernel_rfl) (fun _ _ _ h => h) (Or.inl ⟨by rfl, ?_⟩) ?_
  rotate_left
  · intro W hSW
    go_simp
    try with_reducible rfl
  simp only [Act.put, List.setIfInBounds_toArray, List.set_cons_zero, List.set_cons_succ]
  refine wpAnyT_take0 (i := 9) (v := ?_) rfl (by kernel_rfl) (by kernel_rfl) (by kernel_rfl) (by kernel_rfl) (fun _ _ _ h => h) (Or.inl ⟨by rfl, ?_⟩) ?_
  rotate_left
  · intro W hSW
    go_simp
    try with_reducible rfl
  simp only [Act.put, List.setIfInBounds_toArray, List.set_cons_zero, List.set_cons_succ]
  refine wpAnyT_take0 (i := 6) (v := ?_) rfl (by kernel_rfl) (by kernel_rfl) (by kernel_rfl) (by kernel_rfl) (fun _ _ _ h => h) (Or.inl ⟨by rfl, ?_⟩) ?_
  rotate_left
  · intro W hSW
    go_simp
    try with_reducible rfl
  simp only [Act.put, List.setIfInBounds_toArray, List.set_cons_zero, List.set_cons_succ]
  refine wpAnyT_take0 (i := 10) (v := ?_) rfl (by kernel_rfl) (by kernel_rfl) (by kernel_rfl) (by kernel_rfl) (fun _ _ _ h => h) (Or.inl ⟨by rfl, ?_⟩) ?_
  rotate_left
  · intro W hSW
    go_simp
    try with_reducible rfl
  simp only [Act.put, List.setIfInBounds_toArray, List.set_cons_zero, List.set_cons_succ]
  refine wpAnyT_take (i := 7) (v := ?_) rfl (by kernel_rfl) (by kernel_rfl) (by kernel_rfl) (by kernel_rfl) (fun _ _ _ h => h) (Or.inl ⟨by rfl, ?_⟩) hT0 ?_
  rotate_left
  · intro W hSW
    obtain ⟨hs0, hs1, hs2⟩ := hSW
    go_simp
    try with_reducible rfl
  simp only [Act.put, List.setIfInBounds_toArray, List.set_cons_zero, List.set_cons_succ]
  refine wpAnyT_take (i := 11) (v := ?_) rfl (by kernel_rfl) (by kernel_rfl) (by kernel_rfl) (by kernel_rfl) (fun _ _ _ h => h) (Or.inl ⟨by rfl, ?_⟩) hT0 ?_
  rotate_left
  · intro W hSW
    obtain ⟨hs0, hs1, hs2⟩ := hSW
    go_simp
    try with_reducible rfl
  simp only [Act.put, List.setIfInBounds_toArray, List.set_cons_zero, List.set_cons_succ]
  refine wpAnyT_take0 (i := 12) (v := ?_) rfl (by kernel_rfl) (by kernel_rfl) (by kernel_rfl) (by kernel_rfl) (fun _ _ _ h => h) (Or.inl ⟨by rfl, ?_⟩) ?_
  rotate_left
  · intro W hSW
    go_simp
    try with_reducible rfl
  simp only [Act.put, List.setIfInBounds_toArray, List.set_cons_zero, List.set_cons_succ]
  refine wpAnyT_ready (rs := [13]) (by decide +kernel) (by simp) ?_
  refine AllReadyT.cons rfl (fun K hK => ?_) AllReadyT.nil
  go_simp
  refine hK.out _ _ (fun h => by cases h) ?_
  try simp only [Act.put, List.setIfInBounds_toArray, List.set_cons_zero, List.set_cons_succ]
  clear hK K
  refine wpAnyT_take0 (i := 14) (v := ?_) rfl (by kernel_rfl) (by kernel_rfl) (by kernel_rfl) (by kernel_rfl) (fun _ _ _ h => h) (Or.inl ⟨by rfl, ?_⟩) ?_
  rotate_left
  · intro W hSW
    go_simp
    try with_reducible rfl
  simp only [Act.put, List.setIfInBounds_toArray, List.set_cons_zero, List.set_cons_succ]
  refine wpAnyT_ready (rs := [15]) (by decide +kernel) (by simp) ?_
  refine AllReadyT.cons rfl (fun K hK => ?_) AllReadyT.nil
  go_simp
  refine hK.out _ _ (fun h => by cases h) ?_
  try simp only [Act.put, List.setIfInBounds_toArray, List.set_cons_zero, List.set_cons_succ]
  clear hK K
  refine wpAnyT_done (by decide +kernel) ?_ _
  clear hT0 d0 d1 d2 f0 f1 f2
  go_wp2_with fail
  go_end0
  exact ⟨rfl, bel_put3 (bel_put3 HB.out HI.out.lt.1) HI.out.lt.1, HI.out.put.put⟩
end Go.Proofs.YtmfohnchnbgbaaaGreat

/- One treaty's place in a heap: what comes back; tower.Order. -/
namespace Go.Proofs.YtmfohnchnbgbaaaGreat
open Go.RowKit Go.Lib
set_option linter.unusedSimpArgs false

theorem PlI.far {B G g n c : Nat} {rows : List (List Value)} {w : World} (h : PlI B G g n c rows w) {p : Addr} (h1 : p.block ≠ G) (h2 : p.block ≠ g) (u : Value) : PlI B G g n c rows (w.setCell p u) :=
  ⟨h.bx.far (Ne.symm h1) _, h.ow.far (fun kk hk => by simp [blk] at hk; subst hk; exact Ne.symm h2) _, h.ne, h.ge⟩
set_option maxRecDepth 100000 in
set_option maxHeartbeats 2000000 in
theorem popP_any (B G g c : Nat) (w : World) (h : PlI B G g 1 c [pRow] w) :
    Calls Tryz.prog 232 #[.pointer (some ⟨G, 0, none⟩)] w fun e w' => e = .returned (.iface 213 (.agg #[.int .i64 1, .int .i64 0, .int .i64 0])) ∧ Below B w w' ∧ PlI B G g 0 c [] w' := by
  have x0 : w.cell? ⟨G, 0, none⟩ = some (.slice (some ⟨g, 0, none⟩) 1 c) := h.bx.cell 0
  obtain ⟨d0, d1, d2⟩ := h.row
  obtain ⟨hl1, hl2, hl3⟩ := h.lt
  have hc := h.ow.cap_le
  have hB : B ≤ w.heap.size := by omega
  obtain ⟨w1, hw1⟩ : ∃ W, w.alloc (.cells #[.int .i64 1, .int .i64 0, .int .i64 0] 213) = W := ⟨_, rfl⟩
  have h1 : Below w.heap.size w w1 := by rw [← hw1]; exact (Below.refl _ _).alloc (Nat.le_refl _) _
  have HX := hide (show Blk w1 w.heap.size 213 #[.int .i64 1, .int .i64 0, .int .i64 0] by rw [← hw1]; exact Blk.new _ _ _)
  have HI := hide (h.below h1)
  have HB := hide (show Below B w w1 by rw [← hw1]; exact (Below.refl _ _).alloc hB _)
  have HW := hide hw1
  clear h h1 hw1
  go_enter Tryz.func232, Tryz.ntmps232
  go_upto_region 3 with fail
  rw [show w.alloc (.cells #[.int .i64 1, .int .i64 0, .int .i64 0] 213) = w1 from HW.out]
  clear x0 d0 d1 d2
  have x0 : w1.cell? ⟨G, 0, none⟩ = some (.slice (some ⟨g, 0, none⟩) 1 c) := HI.out.bx.cell 0
  have f0 := HI.out.bx.frozen 0
  have y0 : w1.cell? ⟨w.heap.size, 0, none⟩ = some (.int .i64 1) := HX.out.cell 0
  have y1 : w1.cell? ⟨w.heap.size, 1, none⟩ = some (.int .i64 0) := HX.out.cell 1
  have y2 : w1.cell? ⟨w.heap.size, 2, none⟩ = some (.int .i64 0) := HX.out.cell 2
  have hne : ¬ G = w.heap.size := by omega
  go_wp2_with fail
  go_ret
  exact ⟨rfl, HB.out.setCell (p := ⟨G, 0, none⟩) HI.out.ge _, ⟨HI.out.bx.set_ 0 _, (HI.out.ow.firsts (k := 0) (by omega)).far (p := ⟨G, 0, none⟩) (fun kk hk => by simp [blk] at hk; subst hk; exact Ne.symm HI.out.ne) _, HI.out.ne, HI.out.ge⟩⟩
set_option maxRecDepth 100000 in
set_option maxHeartbeats 2000000 in
theorem hpop_any (B G g c : Nat) (w : World) (h : PlI B G g 1 c [pRow] w) :
    Calls Tryz.prog 113 #[.iface 209 (.pointer (some ⟨G, 0, none⟩))] w fun e w' => e = .returned (.iface 213 (.agg #[.int .i64 1, .int .i64 0, .int .i64 0])) ∧ Below B w w' ∧ PlI B G g 0 c [] w' := by
  have hm1 := m_len (G := G) (h.bx.cell 0)
  have hm2 := m_swap (G := G) (h.bx.cell 0)
  have HI := hide h
  clear h
  go_enter Tryz.func113, Tryz.ntmps113
  go_wp2_with fail
  refine (len_any 1 c _ w).mono ?_
  rintro e w1 ⟨rfl, rfl⟩
  go_wp2_with fail
  refine (swapP_any B G g c _ HI.out).mono ?_
  rintro e w2 ⟨rfl, h2, hI2⟩
  have HI2 := hide hI2
  have H2 := hide h2
  clear h2 hI2 hm1 hm2
  go_wp2_with fail
  refine (down_any _ _).mono ?_
  rintro e w3 ⟨rfl, rfl⟩
  have hm3 := m_pop (.pointer (some ⟨G, 0, none⟩)) w3
  go_wp2_with fail
  refine (popP_any B G g c _ HI2.out).mono ?_
  rintro e w4 ⟨rfl, h4, hI4⟩
  have HI4 := hide hI4
  have H4 := hide (H2.out.trans h4)
  clear h4 hI4 hm3
  go_wp2_with fail
  go_ret
  exact ⟨rfl, H4.out, HI4.out⟩
set_option maxRecDepth 100000 in
set_option maxHeartbeats 4000000 in
theorem orderT_any (g : Nat) (w : World) (hB : Blk w g 97 trC) :
    Calls Tryz.prog 59 #[.slice (some ⟨g, 0, none⟩) 1 1] w fun e w' => (∃ (A : Option Addr) (c : Nat), e = .returned (.slice A 1 c) ∧ SV w' 1 A 1 c [[.int .i64 0]]) ∧ Below w.heap.size w w' := by
  have hta : ∀ W : World, (Instr.typeAssert (.iface 213 (.agg #[.int .i64 1, .int .i64 0, .int .i64 0])) 20 213 true).run Tryz.prog W = .ok (.tuple #[.agg #[.int .i64 1, .int .i64 0, .int .i64 0], .bool true]) W := fun W => by kernel_rfl
  obtain ⟨B, hBq⟩ : ∃ B, w.heap.size = B := ⟨_, rfl⟩
  obtain ⟨w1, hw1⟩ : ∃ W, (w.alloc (.cells #[] 213)).alloc (.cells #[.slice (some ⟨w.heap.size, 0, none⟩) 0 0] 211) = W := ⟨_, rfl⟩
  have h1 : Below w.heap.size w w1 := by rw [← hw1]; exact ((Below.refl _ _).alloc (Nat.le_refl _) _).alloc (by simp) _
  have HB := hide (hB.below h1 hB.lt)
  have hI : PlI B (B + 1) B 0 0 [] w1 := by
    rw [← hBq, ← hw1]
    exact ⟨Blk.new' (by simp), (OwnS.lit w (Nat.le_refl _) 213 [] RowsOk.nil_ (by simp [maxLen]) #[] rfl).alloc _, by omega, by omega⟩
  have HI := hide hI
  have H1 := hide (show Below B w w1 by rw [← hBq]; exact h1)
  have HW := hide hw1
  have HBq := hide hBq
  clear hB h1 hI hw1
  go_enter Tryz.func59, Tryz.ntmps59
  go_upto_region 2 with fail
  rw [show (w.alloc (.cells #[] 213)).alloc (.cells #[.slice (some ⟨B, 0, none⟩) 0 0] 211) = w1 from by rw [← HBq.out]; exact HW.out]
  clear hBq
  go_wp2_with fail
  go_loopw [14] (fun q wr => (q = .int .i64 0 ∧ wr = w1) ∨ (q = .int .i64 1 ∧ Below B w wr ∧ ∃ g' c', PlI B (B + 1) g' 1 c' [pRow] wr)) (fun q _ => 2 - (RowKit.intOf q).toNat)
  case atStart => exact .inl ⟨rfl, rfl⟩
  case round =>
    rename World => wo
    rcases hrel with ⟨rfl, rfl⟩ | ⟨rfl, hb, g1, c1, hI⟩
    · obtain ⟨x0, x1, x2, x3, x4, x5, x6, x7, x8⟩ := tr_cells HB.out
      obtain ⟨w2, hw2⟩ : ∃ W, wo.alloc (.cells trC 97) = W := ⟨_, rfl⟩
      have h12 : Below wo.heap.size wo w2 := by rw [← hw2]; exact (Below.refl _ _).alloc (Nat.le_refl _) _
      have HT2 := hide (show Blk w2 wo.heap.size 97 trC by rw [← hw2]; exact Blk.new _ _ _)
      obtain ⟨hl1, hl2, hl3⟩ := HI.out.lt
      have hsz : wo.heap.size < w2.heap.size := HT2.out.lt
      have H2 := hide (show Below B w w2 by rw [← hw2]; exact H1.out.alloc (by omega) _)
      have HI2 := hide (HI.out.below h12)
      have HW2 := hide hw2
      clear hw2 h12
      go_upto_region 5 with fail
      rw [show wo.alloc (.cells #[.int .i64 2, .int .i64 1, .int .i64 1, .int .i64 101, .int .i64 5000, .int .i64 0, .int .i64 0, .int .i64 0, .int .i64 255] 97) = w2 from HW2.out]
      clear x0 x1 x2 x3 x4 x5 x6 x7 x8
      obtain ⟨x0, x1, x2, x3, x4, x5, x6, x7, x8⟩ := tr_cells HT2.out
      obtain ⟨w3, hw3⟩ : ∃ W, w2.alloc (.cells #[.int .i64 1, .int .i64 0, .int .i64 0] 213) = W := ⟨_, rfl⟩
      have h23 : Below w2.heap.size w2 w3 := by rw [← hw3]; exact (Below.refl _ _).alloc (Nat.le_refl _) _
      have HP3 := hide (show Blk w3 w2.heap.size 213 #[.int .i64 1, .int .i64 0, .int .i64 0] by rw [← hw3]; exact Blk.new _ _ _)
      have HT3 := hide (HT2.out.below h23 HT2.out.lt)
      have H3 := hide (show Below B w w3 by rw [← hw3]; exact H2.out.alloc (by omega) _)
      have HI3 := hide (HI2.out.below h23)
      have HW3 := hide hw3
      clear hw3 h23
      go_upto_region 6 with fail
      rw [show w2.alloc (.cells #[.int .i64 1, .int .i64 0, .int .i64 0] 213) = w3 from HW3.out]
      clear x0 x1 x2 x3 x4 x5 x6 x7 x8
      obtain ⟨x0, x1, x2, x3, x4, x5, x6, x7, x8⟩ := tr_cells HT3.out
      have y1 : w3.cell? ⟨w2.heap.size, 1, none⟩ = some (.int .i64 0) := HP3.out.cell 1
      have f1 := HP3.out.frozen 1
      obtain ⟨w4, hw4⟩ : ∃ W, w3.setCell ⟨w2.heap.size, 1, none⟩ (.int .i64 0) = W := ⟨_, rfl⟩
      have HP4 := hide (show Blk w4 w2.heap.size 213 #[.int .i64 1, .int .i64 0, .int .i64 0] by rw [← hw4]; exact HP3.out.set_ 1 _)
      have HI4 := hide (show PlI B (B + 1) B 0 0 [] w4 by rw [← hw4]; exact HI3.out.far (p := ⟨w2.heap.size, 1, none⟩) (by simp; omega) (by simp; omega) _)
      have H4 := hide (show Below B w w4 by rw [← hw4]; exact H3.out.setCell (p := ⟨w2.heap.size, 1, none⟩) (by simp; omega) _)
      have HW4 := hide hw4
      clear hw4
      go_upto_region 11 with fail
      rw [show w3.setCell ⟨w2.heap.size, 1, none⟩ (.int .i64 0) = w4 from HW4.out]
      clear x0 x1 x2 x3 x4 x5 x6 x7 x8 y1 f1
      have y0 : w4.cell? ⟨w2.heap.size, 0, none⟩ = some (.int .i64 1) := HP4.out.cell 0
      have y1 : w4.cell? ⟨w2.heap.size, 1, none⟩ = some (.int .i64 0) := HP4.out.cell 1
      have y2 : w4.cell? ⟨w2.heap.size, 2, none⟩ = some (.int .i64 0) := HP4.out.cell 2
      go_wp2_with fail
      refine (hpush_any B (B + 1) B 0 w4 HI4.out).mono ?_
      rintro e w5 ⟨rfl, h5, g5, c5, hI5⟩
      have HI5 := hide hI5
      have H5 := hide (H4.out.trans h5)
      clear h5 hI5 y0 y1 y2
      go_wp2_with fail
      go_roundw
      case rel => exact .inr ⟨rfl, H5.out, g5, c5, HI5.out⟩
      case measure => simp [RowKit.intOf]
    · have HIa := hide hI
      have HBa := hide hb
      clear hI hb
      go_wp2_with fail
      go_loopw [7] (fun q wr => (q = .slice none 0 0 ∧ Below B w wr ∧ ∃ g' c', PlI B (B + 1) g' 1 c' [pRow] wr) ∨ (∃ (A : Option Addr) (cA g' c' : Nat), q = .slice A 1 cA ∧ Below B w wr ∧ SV wr 1 A 1 cA [[.int .i64 0]] ∧ PlI B (B + 1) g' 0 c' [] wr)) (fun q _ => 1 - sliceLen q)
      case atStart => exact .inl ⟨rfl, HBa.out, g1, c1, HIa.out⟩
      case round =>
        rename World => wp
        rcases hrel with ⟨rfl, hb, g2, c2, hI⟩ | ⟨A, cA, g2, c2, rfl, hb, hs, hI⟩
        · have x0 : wp.cell? ⟨B + 1, 0, none⟩ = some (.slice (some ⟨g2, 0, none⟩) 1 c2) := hI.bx.cell 0
          have HI2 := hide hI
          have HB2 := hide hb
          clear hI hb
          go_wp2_with fail
          refine (len_any 1 c2 _ wp).mono ?_
          rintro e w6 ⟨rfl, rfl⟩
          go_wp2_with fail
          refine (hpop_any B (B + 1) g2 c2 _ HI2.out).mono ?_
          rintro e w7 ⟨rfl, h7, hI7⟩
          have HI7 := hide hI7
          have H7 := hide (HB2.out.trans h7)
          have hsz : B ≤ w7.heap.size := by have := hI7.lt; omega
          clear h7 hI7 x0
          go_wp2_with (at_builtin
                       refine wpList_app rfl (.tmp 52) (.tmp 55) 39 rfl elInt (B := B) (A2 := some ⟨_, 0, none⟩) (news := [(0 : Int)].map encI) rfl (OwnS.nil_ _ _ _ _) rfl rfl ?_ (okI [(0 : Int)]) ?_ ?_ ?_ ?_
                       · exact sl_of_blk (cs := #[.int .i64 0]) (Blk.new' (by simp))
                       · simp [maxLen]
                       · omega
                       · simp; omega
                       intro A8 c8 w8 ho8 hg8 ha8
                       have H8 := hide (((H7.out.alloc hsz _).alloc (by simp; omega) _).grown hg8 (by simp; omega) (fun kk hk => by simp [blk] at hk))
                       have HI8 := hide (show PlI B (B + 1) g2 0 c2 [] w8 from ⟨((HI7.out.bx.alloc _).alloc _).grown hg8 (by simp [blk]), ((HI7.out.ow.alloc _).alloc _).kept hg8 (.inr (by simp [blk])), HI7.out.ne, HI7.out.ge⟩)
                       have HO8 := hide ho8
                       clear hg8 ha8 ho8)
          go_roundw
          case rel => exact .inr ⟨A8, c8, g2, c2, rfl, H8.out, HO8.out.sv, HI8.out⟩
          case measure => simp [sliceLen]
        · have x0 : wp.cell? ⟨B + 1, 0, none⟩ = some (.slice (some ⟨g2, 0, none⟩) 0 c2) := hI.bx.cell 0
          have HS := hide hs
          have HB2 := hide hb
          clear hI hb hs
          go_wp2_with fail
          refine (len_any 0 c2 _ wp).mono ?_
          rintro e w6 ⟨rfl, rfl⟩
          go_wp2_with fail
          go_ret
          exact ⟨⟨A, cA, rfl, HS.out⟩, by rw [HBq.out]; exact HB2.out⟩
end Go.Proofs.YtmfohnchnbgbaaaGreat
