/- Part 13 of the proof. -/
import Derived.Test.YtmfohnchnbgbaaaGreatTcM04
import Derived.Test.YtmfohnchnbgbaaaGreatTcM07
import Derived.Test.YtmfohnchnbgbaaaGreatTcM12
/- Files that may be: adjust.Right, adjust.check. -/
namespace Go.Proofs.YtmfohnchnbgbaaaGreat
open Go.RowKit Go.Lib
set_option linter.unusedSimpArgs false

/-- A file: the claim, and its acts. -/
structure Fl where
  c : Cl
  A : Option Addr
  l : List Ac
  cap : Nat
def encFl (x : Fl) : List Value := [.int .i64 x.c.id, .int .i64 x.c.pol, .int .i64 x.c.per, .int .i64 x.c.loss, .int .i64 x.c.bkd, .int .i64 x.c.ev, .slice x.A x.l.length x.cap]
structure FV (w : World) (A : Option Addr) (n cap : Nat) (L : List Fl) : Prop where
  sv : SV w 7 A n cap (L.map encFl)
  ac : ∀ x ∈ L, SV w 3 x.A x.l.length x.cap (x.l.map encAc)
theorem FV.below {w w' : World} {A : Option Addr} {n cap : Nat} {L : List Fl} (h : FV w A n cap L) (hb : Below w.heap.size w w') : FV w' A n cap L := ⟨h.sv.below hb, fun x hx => (h.ac x hx).below hb⟩
theorem FV.len {w : World} {A : Option Addr} {n cap : Nat} {L : List Fl} (h : FV w A n cap L) : L.length = n := by have := h.sv.len; simpa using this
theorem Sl.fl {w : World} {B k : Nat} {A : Option Addr} {M : List Fl} {x : Fl} (h : Sl w B 7 A (M.map encFl)) (hx : M[k]? = some x) :
    ∃ b off, A = some ⟨b, off, none⟩ ∧ b < B ∧ w.cell? ⟨b, off + k * 7, none⟩ = some (.int .i64 x.c.id) ∧ w.cell? ⟨b, off + k * 7 + 1, none⟩ = some (.int .i64 x.c.pol) ∧ w.cell? ⟨b, off + k * 7 + 2, none⟩ = some (.int .i64 x.c.per) ∧
      w.cell? ⟨b, off + k * 7 + 3, none⟩ = some (.int .i64 x.c.loss) ∧ w.cell? ⟨b, off + k * 7 + 4, none⟩ = some (.int .i64 x.c.bkd) ∧ w.cell? ⟨b, off + k * 7 + 5, none⟩ = some (.int .i64 x.c.ev) ∧ w.cell? ⟨b, off + k * 7 + 6, none⟩ = some (.slice x.A x.l.length x.cap) := by
  obtain ⟨b, off, hA, hb, hc⟩ := h k (encFl x) (by simp [hx])
  exact ⟨b, off, hA, hb, by simpa using hc 0 _ rfl, hc 1 _ rfl, hc 2 _ rfl, hc 3 _ rfl, hc 4 _ rfl, hc 5 _ rfl, hc 6 _ rfl⟩
theorem bx_cells {w : World} {g : Nat} {t : TypeId} {c : Cl} {A : Option Addr} {n cap : Nat} (h : Blk w g t (boxC c A n cap)) : w.cell? ⟨g, 0, none⟩ = some (.int .i64 c.id) ∧ w.cell? ⟨g, 1, none⟩ = some (.int .i64 c.pol) ∧ w.cell? ⟨g, 2, none⟩ = some (.int .i64 c.per) ∧ w.cell? ⟨g, 3, none⟩ = some (.int .i64 c.loss) ∧ w.cell? ⟨g, 4, none⟩ = some (.int .i64 c.bkd) ∧ w.cell? ⟨g, 5, none⟩ = some (.int .i64 c.ev) ∧ w.cell? ⟨g, 6, none⟩ = some (.slice A n cap) :=
  ⟨h.cell 0, h.cell 1, h.cell 2, h.cell 3, h.cell 4, h.cell 5, h.cell 6⟩
/-- Is a file made of its acts? -/
def madeB (bkd : Int) (l : List Ac) : Bool := (List.range l.length).all fun k => match l[k]? with | some a => decide (putC bkd (l.take k) a = 0) | none => true
theorem madeB_no {bkd : Int} {l : List Ac} {k : Nat} {a : Ac} (ha : l[k]? = some a) (hp : putC bkd (l.take k) a ≠ 0) : madeB bkd l = false := by
  unfold madeB
  rw [List.all_eq_false]
  exact ⟨k, List.mem_range.2 (lt_of_get ha), by rw [ha]; simpa using hp⟩
theorem madeB_yes {bkd : Int} {l : List Ac} (h : ∀ k a, l[k]? = some a → putC bkd (l.take k) a = 0) : madeB bkd l = true := by
  unfold madeB
  rw [List.all_eq_true]
  intro k hk
  obtain ⟨a, ha⟩ := get_of (List.mem_range.1 hk)
  rw [ha]
  simpa using h k a ha
theorem madeB_at {bkd : Int} {l : List Ac} (h : madeB bkd l = true) {k : Nat} {a : Ac} (ha : l[k]? = some a) : putC bkd (l.take k) a = 0 := by
  unfold madeB at h
  rw [List.all_eq_true] at h
  have := h k (List.mem_range.2 (lt_of_get ha))
  rw [ha] at this
  simpa using this

theorem Blk.row {w : World} {g : Nat} {t : TypeId} {cs : Array Value} (h : Blk w g t cs) (cs' : Array Value) : Blk (w.setRow g cs') g t cs' := setRow_heap w g cs cs' t (0, 0) h
theorem Blk.rowFar {w : World} {g g' : Nat} {t : TypeId} {cs : Array Value} (h : Blk w g t cs) (hne : g ≠ g') (cs' : Array Value) : Blk (w.setRow g' cs') g t cs := (setRow_other w g' g cs' hne).trans h
theorem SV.rowFar {w : World} {sz n cap g : Nat} {A : Option Addr} {rows : List (List Value)} (h : SV w sz A n cap rows) (hne : ∀ b, blk A = some b → b ≠ g) (cs : Array Value) : SV (w.setRow g cs) sz A n cap rows :=
  h.only (fun b hb => setRow_other w g b cs (hne b hb)) (by simp)
section
variable {P : Program} {w : World}
theorem step_row {ops : Array Oper} {o : Oper} {a : Act} {K : Act → World → Prop} {Q : Exit → Act → World → Prop} {E : Prop} (hgd : o.guard = none) (ty : TypeId) (x y : Operand) (ho : o.op = .store ty x y)
    {g : Nat} {cells old : Array Value} {t : TypeId} (hx : a.eval x = .pointer (some ⟨g, 0, none⟩)) (hy : a.eval y = .agg cells) (hg : Blk w g t old) (hi : (P.info? ty).map (·.size) = some cells.size) (hold : old.size = cells.size) (h1 : cells.all (·.oneCell') = true)
    (h : K (a.put o.dst undef) (w.setRow g cells)) : if Region.wanted o (yielded ops a.tmps) = true then Oper.wp P o a w K Q else E := by
  have hw : Region.wanted o (yielded ops a.tmps) = true := by simp [Region.wanted, hgd]
  rw [if_pos hw]
  exact wp_store_row ty x y ho g cells hx hy t old hg hi hold h1 h
theorem step_loadR {ops : Array Oper} {o : Oper} {a : Act} {K : Act → World → Prop} {Q : Exit → Act → World → Prop} {E : Prop} (hgd : o.guard = none) (ty : TypeId) (x : Operand) (ho : o.op = .load ty x)
    {g : Nat} {cs : Array Value} {t : TypeId} {d : TypeDesc} (hx : a.eval x = .pointer (some ⟨g, 0, none⟩)) (hg : Blk w g t cs) (hu : P.underlying ty = some d) (hd : (match d with | .struct _ | .array _ _ => true | _ => false) = true) (hi : (P.info? ty).map (·.size) = some cs.size)
    (h : K (a.put o.dst (.agg cs)) w) : if Region.wanted o (yielded ops a.tmps) = true then Oper.wp P o a w K Q else E := by
  have hw : Region.wanted o (yielded ops a.tmps) = true := by simp [Region.wanted, hgd]
  rw [if_pos hw]
  exact wp_load_row ty x ho g hx t cs (0, 0) d hg hu hd hi h
end
def MadeI (w1 : World) (x : Fl) (G : Nat) (q4 q5 : Value) (wr : World) : Prop :=
  Below w1.heap.size w1 wr ∧ ((∃ (k : Nat) (A : Option Addr) (cap : Nat), k ≤ x.l.length ∧ q5 = .int .i64 k ∧ q4 = .int .i64 0 ∧ (∀ j a, j < k → x.l[j]? = some a → putC x.c.bkd (x.l.take j) a = 0) ∧ Blk wr G 49 (boxC x.c A k cap) ∧ SV wr 3 A k cap ((x.l.take k).map encAc) ∧ (∀ b, blk A = some b → b ≠ G)) ∨
    ∃ (k : Nat) (E : Int), k + 1 ≤ x.l.length ∧ q5 = .int .i64 ((k + 1 : Nat) : Int) ∧ q4 = .int .i64 E ∧ E ≠ 0 ∧ madeB x.c.bkd x.l = false)

set_option maxRecDepth 100000 in
set_option maxHeartbeats 4000000 in
theorem made_any (x : Fl) (w : World) (hs : SV w 3 x.A x.l.length x.cap (x.l.map encAc)) :
    Calls Tryz.prog 172 #[.agg #[.int .i64 x.c.id, .int .i64 x.c.pol, .int .i64 x.c.per, .int .i64 x.c.loss, .int .i64 x.c.bkd, .int .i64 x.c.ev, .slice x.A x.l.length x.cap]] w fun e w' => e = .returned (.bool (madeB x.c.bkd x.l)) ∧ Below w.heap.size w w' := by
  obtain ⟨w1, hw1⟩ : ∃ W, w.alloc (.cells (boxC x.c x.A x.l.length x.cap) 49) = W := ⟨_, rfl⟩
  have H1 := hide (show Below w.heap.size w w1 by rw [← hw1]; exact (Below.refl _ _).alloc (Nat.le_refl _) _)
  have HB := hide (show Blk w1 w.heap.size 49 (boxC x.c x.A x.l.length x.cap) by rw [← hw1]; exact Blk.new _ _ _)
  obtain ⟨x0, x1, x2, x3, x4, x5, x6⟩ := bx_cells HB.out
  have HS := hide (hs.below H1.out)
  have HW := hide hw1
  have HOP := hide (open_any x.c w1)
  have hle := hs.le
  have hmo := hs.most
  unfold maxLen at hmo
  obtain ⟨n, hn⟩ : ∃ n, x.l.length = n := ⟨_, rfl⟩
  rw [hn] at hle x6
  have HN := hide hn
  obtain ⟨R, hR⟩ : ∃ R, madeB x.c.bkd x.l = R := ⟨_, rfl⟩
  rw [hR]
  have HR := hide hR
  clear hw1 hs hn hR
  go_enter Tryz.func172, Tryz.ntmps172
  go_upto_region 1 with fail
  rw [show w.alloc (.cells #[.int .i64 x.c.id, .int .i64 x.c.pol, .int .i64 x.c.per, .int .i64 x.c.loss, .int .i64 x.c.bkd, .int .i64 x.c.ev, .slice x.A x.l.length x.cap] 49) = w1 from HW.out]
  go_wp2_with fail
  refine HOP.out.mono ?_
  rintro e w2 ⟨rfl, h2⟩
  have H2 := hide (chain H1.out h2)
  have H12 := hide h2
  have HB2 := hide (HB.out.below h2 HB.out.lt)
  clear h2
  go_upto_region 2 with fail
  obtain ⟨w3, hw3⟩ : ∃ W, w2.alloc (.cells (boxC x.c none 0 0) 49) = W := ⟨_, rfl⟩
  have h23 : Below w2.heap.size w2 w3 := by rw [← hw3]; exact (Below.refl _ _).alloc (Nat.le_refl _) _
  have hX3 : Blk w3 w2.heap.size 49 (boxC x.c none 0 0) := by rw [← hw3]; exact Blk.new _ _ _
  have HW3 := hide hw3
  have hlt2 : w.heap.size < w2.heap.size := HB2.out.lt
  have HB3 := hide (HB2.out.below h23 hlt2)
  have H13 := hide (chain H12.out h23)
  have hG1 : w1.heap.size ≤ w2.heap.size := H12.out.size
  clear hw3 h23 HB2 H12 x0 x1 x2 x3 x4 x5 x6
  rw [show w2.alloc (.cells #[.int .i64 x.c.id, .int .i64 x.c.pol, .int .i64 x.c.per, .int .i64 x.c.loss, .int .i64 x.c.bkd, .int .i64 x.c.ev, .slice none 0 0] 49) = w3 from HW3.out]
  obtain ⟨G, hG⟩ : ∃ G, w2.heap.size = G := ⟨_, rfl⟩
  rw [hG] at hX3 hlt2 hG1 ⊢
  have HX3 := hide hX3
  clear hG HW3 hX3
  go_wp2_with fail
  go_loopw [4, 5] (fun q4 q5 wr => MadeI w1 x G q4 q5 wr) (fun _ q5 _ => n - (RowKit.intOf q5).toNat)
  case atStart => exact ⟨H13.out, .inl ⟨0, none, 0, Nat.zero_le _, rfl, rfl, fun j a hj => by omega, HX3.out, sv_nil_Claim _, fun b hb => by simp [blk] at hb⟩⟩
  case round =>
    unfold MadeI at hrel
    obtain ⟨hb, hq⟩ := hrel
    have HBE := hide hb
    have HFr := hide (HB.out.below hb HB.out.lt)
    have HSr := hide (HS.out.below hb)
    obtain ⟨x0, x1, x2, x3, x4, x5, x6⟩ := bx_cells HFr.out
    rw [HN.out] at x6
    have hGr : w.heap.size < wr.heap.size := by have := HB.out.lt; have := hb.size; omega
    clear hb
    rcases hq with ⟨k, A, cap, hk, rfl, rfl, hdone, hX, hsv, hne⟩ | ⟨k, E, hk, rfl, rfl, hE, hno⟩
    · rw [HN.out] at hk
      have HD := hide hdone
      have HXr := hide hX
      have HSV := hide hsv
      have hGlt := hX.lt
      by_cases hlt : k < n
      · obtain ⟨a, ha⟩ := get_of (l := x.l) (k := k) (by rw [HN.out]; exact hlt)
        have HA := hide ha
        obtain ⟨ab, ao, hA, hbl, a0, a1, a2⟩ := HS.out.sl.ac ha
        replace a0 := kept HBE.out a0
        replace a1 := kept HBE.out a1
        replace a2 := kept HBE.out a2
        have hab : ab ≠ G := by omega
        rw [hA] at x6
        obtain ⟨y0, y1, y2, y3, y4, y5, y6⟩ := bx_cells hX
        have hk0 : (0 : Int) ≤ (k : Int) := by omega
        have hk1 : (k : Int) < (n : Int) := by omega
        have h4x : (fun X : World => X.cell? ⟨w.heap.size, 6, none⟩ = some (.slice (some ⟨ab, ao, none⟩) n x.cap) ∧ X.cell? ⟨ab, ao + k * 3, none⟩ = some (.int .i64 a.b) ∧ X.cell? ⟨ab, ao + k * 3 + 1, none⟩ = some (.int .i64 a.k) ∧ X.cell? ⟨ab, ao + k * 3 + 2, none⟩ = some (.int .i64 a.m)) wr.drew := ⟨x6, a0, a1, a2⟩
        simp only at h4x
        have hkd : decide (k < n) = true := by simpa using hlt
        have hPut : (putC x.c.bkd (x.l.take k) a = 0 ∧ Calls Tryz.prog 198 #[.agg #[.int .i64 x.c.id, .int .i64 x.c.pol, .int .i64 x.c.per, .int .i64 x.c.loss, .int .i64 x.c.bkd, .int .i64 x.c.ev, .slice A k cap], .agg #[.int .i64 a.b, .int .i64 a.k, .int .i64 a.m]] wr.drew (OkPost wr.drew x.c (x.l.take k ++ [a]) (k + 1))) ∨
            ∃ E, E ≠ 0 ∧ putC x.c.bkd (x.l.take k) a = E ∧ Calls Tryz.prog 198 #[.agg #[.int .i64 x.c.id, .int .i64 x.c.pol, .int .i64 x.c.per, .int .i64 x.c.loss, .int .i64 x.c.bkd, .int .i64 x.c.ev, .slice A k cap], .agg #[.int .i64 a.b, .int .i64 a.k, .int .i64 a.m]] wr.drew (NoPost wr.drew E) := by
          obtain ⟨ab', ak, am⟩ := a
          by_cases hp : putC x.c.bkd (x.l.take k) ⟨ab', ak, am⟩ = 0
          · refine .inl ⟨hp, put_ok (hsv.below (Below.refl _ _).drew) ?_ hp⟩
            have := (putC_zero hp).2.1
            rw [List.length_take, HN.out] at this
            omega
          · exact .inr ⟨_, hp, rfl, put_no (hsv.below (Below.refl _ _).drew) (by omega) rfl hp⟩
        have HP := hide hPut
        clear hdone hX hsv ha hA x0 x1 x2 x3 x4 x5 y0 y1 y2 y3 y4 y5 y6 a0 a1 a2 hPut hbl
        go_upto_region 6 with fail
        clear x6
        refine wp_region_T (fun X : World => X.cell? ⟨w.heap.size, 6, none⟩ = some (.slice (some ⟨ab, ao, none⟩) n x.cap) ∧ X.cell? ⟨ab, ao + k * 3, none⟩ = some (.int .i64 a.b) ∧ X.cell? ⟨ab, ao + k * 3 + 1, none⟩ = some (.int .i64 a.k) ∧ X.cell? ⟨ab, ao + k * 3 + 2, none⟩ = some (.int .i64 a.m)) [] rfl (by kernel_rfl) ?_
        refine wpAnyT_take (i := 1) (v := ?_) rfl (by kernel_rfl) (by kernel_rfl) (by kernel_rfl) (by kernel_rfl) (fun _ _ _ h => h) (Or.inl ⟨by rfl, ?_⟩) h4x ?_
        rotate_left
        · intro W hSW
          obtain ⟨hs0, hs1, hs2, hs3⟩ := hSW
          go_simp
          try with_reducible rfl
        simp only [Act.put, List.setIfInBounds_toArray, List.set_cons_zero, List.set_cons_succ]
        refine wpAnyT_take (i := 3) (v := ?_) rfl (by kernel_rfl) (by kernel_rfl) (by kernel_rfl) (by kernel_rfl) (fun _ _ _ h => h) (Or.inl ⟨by rfl, ?_⟩) h4x ?_
        rotate_left
        · intro W hSW
          obtain ⟨hs0, hs1, hs2, hs3⟩ := hSW
          go_simp
          try with_reducible rfl
        simp only [Act.put, List.setIfInBounds_toArray, List.set_cons_zero, List.set_cons_succ]
        refine wpAnyT_take (i := 2) (v := ?_) rfl (by kernel_rfl) (by kernel_rfl) (by kernel_rfl) (by kernel_rfl) (fun _ _ _ h => h) (Or.inl ⟨by rfl, ?_⟩) h4x ?_
        rotate_left
        · intro W hSW
          obtain ⟨hs0, hs1, hs2, hs3⟩ := hSW
          go_simp
          try with_reducible rfl
        simp only [Act.put, List.setIfInBounds_toArray, List.set_cons_zero, List.set_cons_succ]
        refine wpAnyT_take (i := 4) (v := ?_) rfl (by kernel_rfl) (by kernel_rfl) (by kernel_rfl) (by kernel_rfl) (fun _ _ _ h => h) (Or.inl ⟨by rfl, ?_⟩) h4x ?_
        rotate_left
        · intro W hSW
          obtain ⟨hs0, hs1, hs2, hs3⟩ := hSW
          go_simp
          try with_reducible rfl
        simp only [Act.put, List.setIfInBounds_toArray, List.set_cons_zero, List.set_cons_succ]
        refine wpAnyT_take (i := 5) (v := ?_) rfl (by kernel_rfl) (by kernel_rfl) (by kernel_rfl) (by kernel_rfl) (fun _ _ _ h => h) (Or.inl ⟨by rfl, ?_⟩) h4x ?_
        rotate_left
        · intro W hSW
          obtain ⟨hs0, hs1, hs2, hs3⟩ := hSW
          go_simp
          try with_reducible rfl
        simp only [Act.put, List.setIfInBounds_toArray, List.set_cons_zero, List.set_cons_succ]
        refine wpAnyT_ready (rs := [0]) (by decide +kernel) (by simp) ?_
        refine AllReadyT.cons rfl (fun K hK => ?_) AllReadyT.nil
        refine step_loadR rfl 49 (.tmp 3) rfl rfl HXr.out.drew Tryz.underlying49 rfl (by kernel_rfl) ?_
        refine hK.out _ _ (fun _ => h4x) ?_
        clear hK K
        try simp only [Act.put, List.setIfInBounds_toArray, List.set_cons_zero, List.set_cons_succ]
        refine wpAnyT_ready (rs := [6]) (by decide +kernel) (by simp) ?_
        refine AllReadyT.cons rfl (fun K hK => ?_) AllReadyT.nil
        go_simp
        obtain ⟨s0, s1, s2, s3⟩ := h4x
        rcases HP.out with ⟨hp, hcall⟩ | ⟨E, hE, hp, hcall⟩
        · refine hcall.mono ?_
          rintro e w4 ⟨A4, c4, rfl, hs4, h4, hl4⟩
          have H4 := hide ((chain HBE.out (Below.refl _ _).drew).trans (h4.mono (by have := HBE.out.size; simpa using this)))
          have HX4 := hide (HXr.out.below (chain (Below.refl _ _).drew h4) HXr.out.lt)
          have HS4 := hide hs4
          have HP4 := hide hp
          have HL4 := hide hl4
          have h4x : (fun X : World => X.cell? ⟨w.heap.size, 6, none⟩ = some (.slice (some ⟨ab, ao, none⟩) n x.cap) ∧ X.cell? ⟨ab, ao + k * 3, none⟩ = some (.int .i64 a.b) ∧ X.cell? ⟨ab, ao + k * 3 + 1, none⟩ = some (.int .i64 a.k) ∧ X.cell? ⟨ab, ao + k * 3 + 2, none⟩ = some (.int .i64 a.m)) w4 := ⟨kept h4 s0, kept h4 s1, kept h4 s2, kept h4 s3⟩
          simp only at h4x
          clear s0 s1 s2 s3 hcall h4 hs4 hl4 hp
          refine hK.out _ _ (fun _ => h4x) ?_
          clear hK K
          try simp only [Act.put, List.setIfInBounds_toArray, List.set_cons_zero, List.set_cons_succ]
          refine wpAnyT_take (i := 7) (v := ?_) rfl (by kernel_rfl) (by kernel_rfl) (by kernel_rfl) (by kernel_rfl) (fun _ _ _ h => h) (Or.inl ⟨by rfl, ?_⟩) h4x ?_
          rotate_left
          · intro W hSW
            obtain ⟨hs0, hs1, hs2, hs3⟩ := hSW
            go_simp
            try with_reducible rfl
          simp only [Act.put, List.setIfInBounds_toArray, List.set_cons_zero, List.set_cons_succ]
          refine wpAnyT_take (i := 8) (v := ?_) rfl (by kernel_rfl) (by kernel_rfl) (by kernel_rfl) (by kernel_rfl) (fun _ _ _ h => h) (Or.inl ⟨by rfl, ?_⟩) h4x ?_
          rotate_left
          · intro W hSW
            obtain ⟨hs0, hs1, hs2, hs3⟩ := hSW
            go_simp
            try with_reducible rfl
          simp only [Act.put, List.setIfInBounds_toArray, List.set_cons_zero, List.set_cons_succ]
          refine wpAnyT_take (i := 9) (v := ?_) rfl (by kernel_rfl) (by kernel_rfl) (by kernel_rfl) (by kernel_rfl) (fun _ _ _ h => h) (Or.inl ⟨by rfl, ?_⟩) h4x ?_
          rotate_left
          · intro W hSW
            obtain ⟨hs0, hs1, hs2, hs3⟩ := hSW
            go_simp
            try with_reducible rfl
          simp only [Act.put, List.setIfInBounds_toArray, List.set_cons_zero, List.set_cons_succ]
          refine wpAnyT_ready (rs := [10]) (by decide +kernel) (by simp) ?_
          refine AllReadyT.cons rfl (fun K hK => ?_) AllReadyT.nil
          refine step_row rfl 49 (.tmp 3) (.tmp 28) rfl rfl rfl HX4.out (by kernel_rfl) rfl (by kernel_rfl) ?_
          obtain ⟨s0, s1, s2, s3⟩ := h4x
          have h4x : (fun X : World => X.cell? ⟨w.heap.size, 6, none⟩ = some (.slice (some ⟨ab, ao, none⟩) n x.cap) ∧ X.cell? ⟨ab, ao + k * 3, none⟩ = some (.int .i64 a.b) ∧ X.cell? ⟨ab, ao + k * 3 + 1, none⟩ = some (.int .i64 a.k) ∧ X.cell? ⟨ab, ao + k * 3 + 2, none⟩ = some (.int .i64 a.m)) (w4.setRow G #[.int .i64 x.c.id, .int .i64 x.c.pol, .int .i64 x.c.per, .int .i64 x.c.loss, .int .i64 x.c.bkd, .int .i64 x.c.ev, .slice A4 (k + 1) c4]) := ⟨(cell_setRow_other _ _ _ _ (by simp; omega)).trans s0, (cell_setRow_other _ _ _ _ hab).trans s1, (cell_setRow_other _ _ _ _ hab).trans s2, (cell_setRow_other _ _ _ _ hab).trans s3⟩
          simp only at h4x
          clear s0 s1 s2 s3
          refine hK.out _ _ (fun _ => h4x) ?_
          clear hK K
          try simp only [Act.put, List.setIfInBounds_toArray, List.set_cons_zero, List.set_cons_succ]
          refine wpAnyT_ready (rs := [11]) (by decide +kernel) (by simp) ?_
          refine AllReadyT.cons rfl (fun K hK => ?_) AllReadyT.nil
          go_simp
          refine hK.out _ _ (fun _ => h4x) ?_
          clear hK K
          try simp only [Act.put, List.setIfInBounds_toArray, List.set_cons_zero, List.set_cons_succ]
          refine wpAnyT_done (by decide +kernel) ?_ _
          clear h4x
          go_wp2_with fail
          go_roundw
          case rel => exact ⟨below_setRow H4.out hG1 _, .inl ⟨k + 1, A4, c4, by rw [HN.out]; omega, by go_num, rfl, fun j b hj hb => by
              rcases Nat.lt_or_ge j k with h | h
              · exact HD.out j b h hb
              · obtain rfl : j = k := by omega
                rw [HA.out] at hb; cases hb; exact HP4.out, HX4.out.row _, by
              rw [take_of HA.out]
              exact HS4.out.rowFar (fun b hb => by have := HL4.out b hb; simp at this; omega) _, fun b hb => by have := HL4.out b hb; simp at this; omega⟩⟩
          case measure => simp [RowKit.intOf]; omega
        · refine hcall.mono ?_
          rintro e w4 ⟨rfl, h4⟩
          have H4 := hide ((chain HBE.out (Below.refl _ _).drew).trans (h4.mono (by have := HBE.out.size; simpa using this)))
          have HX4 := hide (HXr.out.below (chain (Below.refl _ _).drew h4) HXr.out.lt)
          have HNO := hide (madeB_no HA.out (by rw [hp]; exact hE))
          have h4x : (fun X : World => X.cell? ⟨w.heap.size, 6, none⟩ = some (.slice (some ⟨ab, ao, none⟩) n x.cap) ∧ X.cell? ⟨ab, ao + k * 3, none⟩ = some (.int .i64 a.b) ∧ X.cell? ⟨ab, ao + k * 3 + 1, none⟩ = some (.int .i64 a.k) ∧ X.cell? ⟨ab, ao + k * 3 + 2, none⟩ = some (.int .i64 a.m)) w4 := ⟨kept h4 s0, kept h4 s1, kept h4 s2, kept h4 s3⟩
          simp only at h4x
          have HE := hide hE
          clear s0 s1 s2 s3 hcall h4 hp hE
          refine hK.out _ _ (fun _ => h4x) ?_
          clear hK K
          try simp only [Act.put, List.setIfInBounds_toArray, List.set_cons_zero, List.set_cons_succ]
          refine wpAnyT_take (i := 7) (v := ?_) rfl (by kernel_rfl) (by kernel_rfl) (by kernel_rfl) (by kernel_rfl) (fun _ _ _ h => h) (Or.inl ⟨by rfl, ?_⟩) h4x ?_
          rotate_left
          · intro W hSW
            obtain ⟨hs0, hs1, hs2, hs3⟩ := hSW
            go_simp
            try with_reducible rfl
          simp only [Act.put, List.setIfInBounds_toArray, List.set_cons_zero, List.set_cons_succ]
          refine wpAnyT_take (i := 8) (v := ?_) rfl (by kernel_rfl) (by kernel_rfl) (by kernel_rfl) (by kernel_rfl) (fun _ _ _ h => h) (Or.inl ⟨by rfl, ?_⟩) h4x ?_
          rotate_left
          · intro W hSW
            obtain ⟨hs0, hs1, hs2, hs3⟩ := hSW
            go_simp
            try with_reducible rfl
          simp only [Act.put, List.setIfInBounds_toArray, List.set_cons_zero, List.set_cons_succ]
          refine wpAnyT_take (i := 9) (v := ?_) rfl (by kernel_rfl) (by kernel_rfl) (by kernel_rfl) (by kernel_rfl) (fun _ _ _ h => h) (Or.inl ⟨by rfl, ?_⟩) h4x ?_
          rotate_left
          · intro W hSW
            obtain ⟨hs0, hs1, hs2, hs3⟩ := hSW
            go_simp
            try with_reducible rfl
          simp only [Act.put, List.setIfInBounds_toArray, List.set_cons_zero, List.set_cons_succ]
          refine wpAnyT_ready (rs := [10]) (by decide +kernel) (by simp) ?_
          refine AllReadyT.cons rfl (fun K hK => ?_) AllReadyT.nil
          refine step_row rfl 49 (.tmp 3) (.tmp 28) rfl rfl rfl HX4.out (by kernel_rfl) rfl (by kernel_rfl) ?_
          obtain ⟨s0, s1, s2, s3⟩ := h4x
          have h4x : (fun X : World => X.cell? ⟨w.heap.size, 6, none⟩ = some (.slice (some ⟨ab, ao, none⟩) n x.cap) ∧ X.cell? ⟨ab, ao + k * 3, none⟩ = some (.int .i64 a.b) ∧ X.cell? ⟨ab, ao + k * 3 + 1, none⟩ = some (.int .i64 a.k) ∧ X.cell? ⟨ab, ao + k * 3 + 2, none⟩ = some (.int .i64 a.m)) (w4.setRow G #[.int .i64 0, .int .i64 0, .int .i64 0, .int .i64 0, .int .i64 0, .int .i64 0, .slice none 0 0]) := ⟨(cell_setRow_other _ _ _ _ (by simp; omega)).trans s0, (cell_setRow_other _ _ _ _ hab).trans s1, (cell_setRow_other _ _ _ _ hab).trans s2, (cell_setRow_other _ _ _ _ hab).trans s3⟩
          simp only at h4x
          clear s0 s1 s2 s3
          refine hK.out _ _ (fun _ => h4x) ?_
          clear hK K
          try simp only [Act.put, List.setIfInBounds_toArray, List.set_cons_zero, List.set_cons_succ]
          refine wpAnyT_ready (rs := [11]) (by decide +kernel) (by simp) ?_
          refine AllReadyT.cons rfl (fun K hK => ?_) AllReadyT.nil
          go_simp
          refine hK.out _ _ (fun _ => h4x) ?_
          clear hK K
          try simp only [Act.put, List.setIfInBounds_toArray, List.set_cons_zero, List.set_cons_succ]
          refine wpAnyT_done (by decide +kernel) ?_ _
          clear h4x
          go_wp2_with fail
          go_roundw
          case rel => exact ⟨below_setRow H4.out hG1 _, .inr ⟨k, E, by rw [HN.out]; exact hlt, by go_num, rfl, HE.out, HNO.out⟩⟩
          case measure => simp [RowKit.intOf]; omega
      · obtain rfl : k = n := by omega
        have hkd : decide (k < k) = false := by simp
        have hR : R = true := by
          rw [← HR.out]
          exact madeB_yes fun j a ha => HD.out j a (by have := lt_of_get ha; rw [HN.out] at this; exact this) ha
        subst hR
        clear hdone hX hsv
        go_wp2_with fail
        go_ret
        exact ⟨rfl, chain H1.out HBE.out⟩
    · have hR : R = false := by rw [← HR.out]; exact hno
      subst hR
      rw [HN.out] at hk
      have hq : (E == 0) = false := by simpa using hE
      have hEb := chain H1.out HBE.out
      clear hno hE
      by_cases hlt : k + 1 < n
      · have hkd : decide (k + 1 < n) = true := by simpa using hlt
        have hk1 : ((k + 1 : Nat) : Int) < (n : Int) := by omega
        go_wp2_with fail
        go_ret
        exact ⟨rfl, hEb⟩
      · have hkd : decide (k + 1 < n) = false := by simpa using hlt
        have hk1 : ¬ ((k + 1 : Nat) : Int) < (n : Int) := by omega
        go_wp2_with fail
        go_ret
        exact ⟨rfl, hEb⟩
end Go.Proofs.YtmfohnchnbgbaaaGreat
