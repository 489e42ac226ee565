/- ClaimOrder's plain facts: acts that are paid, or come back, on one day; and what a call of Put leaves. -/
import Derived.Test.YtmeneojgdbjlnaaClaimL3
namespace Go.Proofs.Ytmeneojgdbjlnaa
open Go.ChangeShapes Go.WideShapes Go.ChangeAt Go.RowKit

def encU (n : Int) : List Value := [.int .u32 n]
def okU (n : Int) : Prop := 0 ≤ n ∧ n ≤ 4294967295
theorem cells_u32 : Try.prog.cellsOf 45 = 1 := by kernel_rfl
theorem leaves_u32 : leaves Try.prog 1 45 = some [.int .u32] := by kernel_rfl
section
variable {H : Type} {enc : TypeId × Value → H} {W : World} {r : Reach} {b0 : Nat} {v : Value} {d : DataW H} {p : List MemPlace}
theorem open_u32s (hv : Value.okWide Try.prog W r b0 47 v) (h : DataW.Trod enc Try.prog W 0 (fun _ => true) true 47 v d p) :
    ∃ (A : Option Addr) (l : List Int) (cap : Nat), v = .slice A l.length cap ∧ SV W 1 A l.length cap (l.map encU) ∧ ∀ n ∈ l, okU n := by
  obtain ⟨A, l, cap, hv, h1, h2, h3, h4, h5⟩ := rows_of enc Try.prog W (α := Int) 1 1 encU okU leaves_u32 cells_u32 rfl (by omega) (fun cs hl => by
    obtain ⟨n1, l1, rfl, w1, h1⟩ := leaf_int enc _ _ hl
    obtain rfl := allLeaf_nil enc _ _ h1
    exact ⟨n1, rfl, by simpa [okU, Lit.wf, IntKind.min, IntKind.max, IntKind.signed, IntKind.bits] using w1⟩) (top_slice enc _ _ Try.underlying47 hv h)
  exact ⟨A, l, cap, hv, ⟨h3, List.length_map _, h1, h2, h5⟩, h4⟩
end
theorem Sl.u {w : World} {B k : Nat} {A : Option Addr} {l : List Int} {n : Int} (h : Sl w B 1 A (l.map encU)) (hx : l[k]? = some n) :
    ∃ b off, A = some ⟨b, off, none⟩ ∧ b < B ∧ w.cell? ⟨b, off + k, none⟩ = some (.int .u32 n) := by
  obtain ⟨b, off, hA, hb, hc⟩ := h k (encU n) (by simp [hx])
  exact ⟨b, off, hA, hb, by simpa using hc 0 _ rfl⟩

/-- Acts of the first day, of kind 2 or 3, of an amount of 32 bits. -/
def Plain (a : Ac) : Prop := a.b = 1 ∧ (a.k = 2 ∨ a.k = 3) ∧ 0 ≤ a.m ∧ a.m ≤ 4294967295
def sumO (k : Int) : List Ac → Int
  | [] => 0
  | a :: l => (if a.k = k then a.m else 0) + sumO k l
theorem sumO_app (k : Int) : ∀ l r : List Ac, sumO k (l ++ r) = sumO k l + sumO k r
  | [], r => by simp [sumO]
  | a :: l, r => by rw [List.cons_append, sumO, sumO, sumO_app k l r]; omega
theorem sumO_rev (k : Int) : ∀ l : List Ac, sumO k l.reverse = sumO k l
  | [] => rfl
  | a :: l => by rw [List.reverse_cons, sumO_app, sumO_rev k l, sumO]; simp [sumO]; omega
theorem sumO_bd (k : Int) : ∀ l : List Ac, (∀ a ∈ l, Plain a) → 0 ≤ sumO k l ∧ sumO k l ≤ l.length * 4294967295
  | [], _ => by simp [sumO]
  | a :: l, h => by
    have h1 := sumO_bd k l (fun x hx => h x (by simp [hx]))
    have h2 := (h a (by simp)).2.2
    rw [sumO, List.length_cons]
    have e : ((l.length + 1 : Nat) : Int) * 4294967295 = l.length * 4294967295 + 4294967295 := by rw [Int.natCast_add, Int.add_mul]; simp
    rw [e]
    split <;> omega
/-- How such acts stand. -/
theorem plain_stand : ∀ (n : Nat) (l : List Ac), l.length = n → n ≤ 1000 → (∀ a ∈ l, Plain a) → standP l = ⟨0, sumO 2 l, sumO 3 l, true⟩ := by
  intro n
  induction n with
  | zero => intro l h _ _; have : l = [] := List.eq_nil_of_length_eq_zero h; subst this; rfl
  | succ n ih =>
    intro l h hn hp
    obtain ⟨r, a, rfl⟩ : ∃ r a, l = r ++ [a] := ⟨l.dropLast, l.getLast (by intro e; subst e; simp at h), (List.dropLast_concat_getLast _).symm⟩
    have hr := ih r (by simpa using h) (by omega) (fun x hx => hp x (by simp [hx]))
    have hrl : r.length = n := by simpa using h
    have ha := hp a (by simp)
    obtain ⟨_, hk, hm0, hm1⟩ := ha
    have b2 := sumO_bd 2 r (fun x hx => hp x (by simp [hx]))
    have b3 := sumO_bd 3 r (fun x hx => hp x (by simp [hx]))
    rw [hrl] at b2 b3
    rw [standP_snoc, hr, sumO_app, sumO_app]
    unfold stepP
    rcases hk with hk | hk
    · rw [if_neg (by omega), if_pos hk, IntWalk.wrap64_in _ (by simp only; omega)]
      simp [sumO, hk]
    · rw [if_neg (by omega), if_neg (by omega), if_pos hk, IntWalk.wrap64_in _ (by simp only; omega)]
      simp [sumO, hk]
theorem plain_last : ∀ (l : List Ac), (∀ a ∈ l, Plain a) → lastB 1 l = 1 := by
  intro l h
  unfold lastB
  cases hl : l.getLast? with
  | none => rfl
  | some x => exact (h x (List.mem_of_getLast? hl)).1
theorem plain_put {l : List Ac} {a : Ac} (h : ∀ x ∈ l, Plain x) (ha : Plain a) (hl : l.length ≤ 200) : putC 1 l a = 0 := by
  have hs := plain_stand _ l rfl (by omega) h
  have b2 := sumO_bd 2 l h
  have b3 := sumO_bd 3 l h
  obtain ⟨h1, h2, h3, h4⟩ := ha
  refine putC_mk (right_mk (by omega) (by omega) (by omega) (by omega) (by omega) (by omega) (by omega)) (by omega) (by rw [plain_last l h]; omega) ?_ ?_
  · rw [hs]; simp; omega
  · rw [hs]
    simp only [overB, decide_eq_false_iff_not]
    rw [IntWalk.wrap64_in _ (by omega), IntWalk.wrap64_in _ (by omega)]
    omega
theorem rev_take {l : List Ac} {k : Nat} {x : Ac} (hk : k < l.length) (h : l[l.length - 1 - k]? = some x) : l.reverse.take (k + 1) = l.reverse.take k ++ [x] := by
  apply take_of
  rw [List.getElem?_reverse hk]
  exact h

/-- What a call of Put leaves in the round: the new file's box. -/
def CutP (wr : World) (c : Cl) (l' : List Ac) (n : Nat) (t u : Value) (wx : World) : Prop :=
  ∃ X A2 c2, t = .pointer (some ⟨X, 0, none⟩) ∧ u = .int .i64 0 ∧ Blk wx X 32 (boxC c A2 n c2) ∧ wr.heap.size ≤ X ∧ SV wx 3 A2 n c2 (l'.map encAc) ∧ (∀ kk, blk A2 = some kk → wr.heap.size ≤ kk ∧ kk < wx.heap.size) ∧ Below wr.heap.size wr wx
theorem cutP1 {wr w2 : World} {c : Cl} {l' : List Ac} {n : Nat} {A2 : Option Addr} {c2 : Nat} (hn : 0 < n)
    (hs : SV w2 3 A2 n c2 (l'.map encAc)) (hb : Below (wr.heap.size + 1) (wr.alloc (.cells zeroF 32)) w2) (hf : ∀ kk, blk A2 = some kk → wr.heap.size + 1 ≤ kk) :
    CutP wr c l' n (.pointer (some ⟨wr.heap.size, 0, none⟩)) (.int .i64 0) (((((((w2.setCell ⟨wr.heap.size, 0, none⟩ (.int .i64 c.id)).setCell ⟨wr.heap.size, 1, none⟩ (.int .i64 c.pol)).setCell ⟨wr.heap.size, 2, none⟩ (.int .i64 c.per)).setCell ⟨wr.heap.size, 3, none⟩ (.int .i64 c.loss)).setCell ⟨wr.heap.size, 4, none⟩ (.int .i64 c.bkd)).setCell ⟨wr.heap.size, 5, none⟩ (.int .i64 c.ev)).setCell ⟨wr.heap.size, 6, none⟩ (.slice A2 n c2)) := by
  have hb' : Below wr.heap.size wr w2 := ((Below.refl _ _).alloc (Nat.le_refl _) _).trans (hb.mono (by omega))
  exact ⟨wr.heap.size, A2, c2, rfl, rfl, set7 ((Blk.new wr _ _).below hb (by omega)) _ _ _ _ _ _ _, Nat.le_refl _, sv_far7 hs (fun kk hk => by have := hf kk hk; omega) _ _ _ _ _ _ _,
    fun kk hk => ⟨by have := hf kk hk; omega, by have := sv_lt hs hn hk; simpa using this⟩, bel7 hb' (Nat.le_refl _) _ _ _ _ _ _ _⟩
theorem cutP2 {wr w2 : World} {c : Cl} {l' : List Ac} {n : Nat} {A2 : Option Addr} {c2 : Nat} (hn : 0 < n)
    (hs : SV w2 3 A2 n c2 (l'.map encAc)) (hb : Below wr.heap.size wr w2) (hf : ∀ kk, blk A2 = some kk → wr.heap.size ≤ kk) :
    CutP wr c l' n (.pointer (some ⟨w2.heap.size, 0, none⟩)) (.int .i64 0) (w2.alloc (.cells #[.int .i64 c.id, .int .i64 c.pol, .int .i64 c.per, .int .i64 c.loss, .int .i64 c.bkd, .int .i64 c.ev, .slice A2 n c2] 32)) :=
  ⟨w2.heap.size, A2, c2, rfl, rfl, Blk.new _ _ _, hb.size, hs.alloc _, fun kk hk => ⟨hf kk hk, by have := sv_lt hs hn hk; simp; omega⟩, hb.alloc hb.size _⟩

def Put1 (w : World) (l : List Ac) (n : Nat) (e : Ending) (w' : World) : Prop :=
  ∃ A' c', e = .returned (.tuple #[.agg #[.int .i64 1, .int .i64 1, .int .i64 0, .int .i64 1, .int .i64 1, .int .i64 0, .slice A' n c'], .int .i64 0]) ∧ SV w' 3 A' n c' (l.map encAc) ∧ Below w.heap.size w w' ∧ ∀ kk, blk A' = some kk → w.heap.size ≤ kk
theorem put_1 {A : Option Addr} {n cap : Nat} {l : List Ac} {b k m : Int} {w : World} (hv : SV w 3 A n cap (l.map encAc)) (hm : n ≤ 2000) (hc : putC 1 l ⟨b, k, m⟩ = 0) :
    Calls Try.prog 16 #[.agg #[.int .i64 1, .int .i64 1, .int .i64 0, .int .i64 1, .int .i64 1, .int .i64 0, .slice A n cap], .agg #[.int .i64 b, .int .i64 k, .int .i64 m]] w (Put1 w (l ++ [⟨b, k, m⟩]) (n + 1)) :=
  put_ok (c := ⟨1, 1, 0, 1, 1, 0⟩) hv hm hc
theorem Stand_1 {A : Option Addr} {n cap : Nat} {l : List Ac} {w0 w1 w : World} {g s b M : Int} {o : Bool} (hs : SV w1 3 A n cap (l.map encAc)) (hg : Below w1.heap.size w1 w) (hb : Below w0.heap.size w0 w) (hm : n ≤ 9223372036854775807) (hp : standP l = ⟨g, s, b, o⟩) (hM : max g s = M) :
    Calls Try.prog 22 #[.agg #[.int .i64 1, .int .i64 1, .int .i64 0, .int .i64 1, .int .i64 1, .int .i64 0, .slice A n cap]] w
      fun e w' => e = .returned (.agg #[.int .i64 M, .int .i64 s, .int .i64 0, .int .i64 b, .int .i64 0, .bool o]) ∧ Below w0.heap.size w0 w' ∧ Below w.heap.size w w' :=
  Stand_v (c := ⟨1, 1, 0, 1, 1, 0⟩) hs hg hb hm hp hM
theorem cutQ1 {wr w2 : World} {l' : List Ac} {n : Nat} {A2 : Option Addr} {c2 : Nat} (hn : 0 < n)
    (hs : SV w2 3 A2 n c2 (l'.map encAc)) (hb : Below (wr.heap.size + 1) (wr.alloc (.cells #[.int .i64 0, .int .i64 0, .int .i64 0, .int .i64 0, .int .i64 0, .int .i64 0, .slice none 0 0] 32)) w2) (hf : ∀ kk, blk A2 = some kk → wr.heap.size + 1 ≤ kk) :
    CutP wr ⟨1, 1, 0, 1, 1, 0⟩ l' n (.pointer (some ⟨wr.heap.size, 0, none⟩)) (.int .i64 0) (((((((w2.setCell ⟨wr.heap.size, 0, none⟩ (.int .i64 1)).setCell ⟨wr.heap.size, 1, none⟩ (.int .i64 1)).setCell ⟨wr.heap.size, 2, none⟩ (.int .i64 0)).setCell ⟨wr.heap.size, 3, none⟩ (.int .i64 1)).setCell ⟨wr.heap.size, 4, none⟩ (.int .i64 1)).setCell ⟨wr.heap.size, 5, none⟩ (.int .i64 0)).setCell ⟨wr.heap.size, 6, none⟩ (.slice A2 n c2)) :=
  cutP1 (c := ⟨1, 1, 0, 1, 1, 0⟩) hn hs hb hf
theorem cutQ2 {wr w2 : World} {l' : List Ac} {n : Nat} {A2 : Option Addr} {c2 : Nat} (hn : 0 < n)
    (hs : SV w2 3 A2 n c2 (l'.map encAc)) (hb : Below wr.heap.size wr w2) (hf : ∀ kk, blk A2 = some kk → wr.heap.size ≤ kk) :
    CutP wr ⟨1, 1, 0, 1, 1, 0⟩ l' n (.pointer (some ⟨w2.heap.size, 0, none⟩)) (.int .i64 0) (w2.alloc (.cells #[.int .i64 1, .int .i64 1, .int .i64 0, .int .i64 1, .int .i64 1, .int .i64 0, .slice A2 n c2] 32)) :=
  cutP2 (c := ⟨1, 1, 0, 1, 1, 0⟩) hn hs hb hf

/-- The third loop's state: the two files' boxes, the acts. -/
structure OrdI (w : World) (G : Nat) (L l1 l2 : List Ac) (A0 A1 A2 : Option Addr) (c0 c1 c2 : Nat) (wx : World) : Prop where
  a : Blk wx G 32 (boxC ⟨1, 1, 0, 1, 1, 0⟩ A1 l1.length c1)
  b : Blk wx (G + 1) 32 (boxC ⟨1, 1, 0, 1, 1, 0⟩ A2 l2.length c2)
  s0 : SV wx 3 A0 L.length c0 (L.map encAc)
  s1 : SV wx 3 A1 l1.length c1 (l1.map encAc)
  s2 : SV wx 3 A2 l2.length c2 (l2.map encAc)
  f0 : ∀ kk, blk A0 = some kk → G + 1 < kk
  f1 : ∀ kk, blk A1 = some kk → G + 1 < kk
  f2 : ∀ kk, blk A2 = some kk → G + 1 < kk
  base : w.heap.size ≤ G
  bel : Below w.heap.size w wx
section
variable {w wx wy : World} {G : Nat} {L l1 l2 : List Ac} {A0 A1 A2 : Option Addr} {c0 c1 c2 : Nat}
theorem OrdI.below (h : OrdI w G L l1 l2 A0 A1 A2 c0 c1 c2 wx) (hb : Below wx.heap.size wx wy) : OrdI w G L l1 l2 A0 A1 A2 c0 c1 c2 wy :=
  ⟨h.a.below hb h.a.lt, h.b.below hb h.b.lt, h.s0.below hb, h.s1.below hb, h.s2.below hb, h.f0, h.f1, h.f2, h.base, chain h.bel hb⟩
theorem OrdI.put1 (h : OrdI w G L l1 l2 A0 A1 A2 c0 c1 c2 wx) {l' : List Ac} {A' : Option Addr} {c' n : Nat} (hn : l'.length = n) (hs : SV wx 3 A' n c' (l'.map encAc)) (hf : ∀ kk, blk A' = some kk → G + 1 < kk) :
    OrdI w G L l' l2 A0 A' A2 c0 c' c2 (((((((wx.setCell ⟨G, 0, none⟩ (.int .i64 1)).setCell ⟨G, 1, none⟩ (.int .i64 1)).setCell ⟨G, 2, none⟩ (.int .i64 0)).setCell ⟨G, 3, none⟩ (.int .i64 1)).setCell ⟨G, 4, none⟩ (.int .i64 1)).setCell ⟨G, 5, none⟩ (.int .i64 0)).setCell ⟨G, 6, none⟩ (.slice A' n c')) := by
  subst hn
  refine ⟨?_, blk_far7 h.b (by omega) _ _ _ _ _ _ _, sv_far7 h.s0 (fun kk hk => by have := h.f0 kk hk; omega) _ _ _ _ _ _ _, sv_far7 hs (fun kk hk => by have := hf kk hk; omega) _ _ _ _ _ _ _, sv_far7 h.s2 (fun kk hk => by have := h.f2 kk hk; omega) _ _ _ _ _ _ _, h.f0, hf, h.f2, h.base, bel7 h.bel h.base _ _ _ _ _ _ _⟩
  have ha := h.a
  unfold boxC at ha ⊢
  exact set7' ha _ _ _ _ _ _ _
theorem OrdI.put2 (h : OrdI w G L l1 l2 A0 A1 A2 c0 c1 c2 wx) {l' : List Ac} {A' : Option Addr} {c' n : Nat} (hn : l'.length = n) (hs : SV wx 3 A' n c' (l'.map encAc)) (hf : ∀ kk, blk A' = some kk → G + 1 < kk) :
    OrdI w G L l1 l' A0 A1 A' c0 c1 c' (((((((wx.setCell ⟨G + 1, 0, none⟩ (.int .i64 1)).setCell ⟨G + 1, 1, none⟩ (.int .i64 1)).setCell ⟨G + 1, 2, none⟩ (.int .i64 0)).setCell ⟨G + 1, 3, none⟩ (.int .i64 1)).setCell ⟨G + 1, 4, none⟩ (.int .i64 1)).setCell ⟨G + 1, 5, none⟩ (.int .i64 0)).setCell ⟨G + 1, 6, none⟩ (.slice A' n c')) := by
  subst hn
  refine ⟨blk_far7 h.a (by omega) _ _ _ _ _ _ _, ?_, sv_far7 h.s0 (fun kk hk => by have := h.f0 kk hk; omega) _ _ _ _ _ _ _, sv_far7 h.s1 (fun kk hk => by have := h.f1 kk hk; omega) _ _ _ _ _ _ _, sv_far7 hs (fun kk hk => by have := hf kk hk; omega) _ _ _ _ _ _ _, h.f0, h.f1, hf, h.base, bel7 h.bel (by have := h.base; omega) _ _ _ _ _ _ _⟩
  have hb := h.b
  unfold boxC at hb ⊢
  exact set7' hb _ _ _ _ _ _ _
end
end Go.Proofs.Ytmeneojgdbjlnaa
