/- Files made act by act. -/
import Derived.Test.YtmeneojgdbjlnaaClaimG
import Derived.Deep.CutRange
namespace Go.Proofs.Ytmeneojgdbjlnaa
open Go.RowKit

theorem same_n {c : Cl} {A A' : Option Addr} {n cap cap' : Nat} {l : List Ac} {w : World} (hs : SV w 3 A n cap (l.map encAc)) (hs' : SV w 3 A' n cap' (l.map encAc)) (hm : n ≤ 9223372036854775807) :
    Calls Try.prog 18 #[.agg #[.int .i64 c.id, .int .i64 c.pol, .int .i64 c.per, .int .i64 c.loss, .int .i64 c.bkd, .int .i64 c.ev, .slice A n cap], .agg #[.int .i64 c.id, .int .i64 c.pol, .int .i64 c.per, .int .i64 c.loss, .int .i64 c.bkd, .int .i64 c.ev, .slice A' n cap']] w
      fun e w' => e = .returned (.bool true) ∧ Below w.heap.size w w' := by
  have hn : l.length = n := by have := hs.len; simpa using this
  subst hn
  exact same_any c A A' cap cap' l w hs.sl hs'.sl hm
theorem putR_ok {c : Cl} {A : Option Addr} {n cap : Nat} {l : List Ac} {b k m : Int} {w : World} (hv : SV w 3 A n cap (l.map encAc)) (ht : tameB l = true) (hc : putC c.bkd l ⟨b, k, m⟩ = 0) :
    Calls Try.prog 17 #[.agg #[.int .i64 c.id, .int .i64 c.pol, .int .i64 c.per, .int .i64 c.loss, .int .i64 c.bkd, .int .i64 c.ev, .slice A n cap], .agg #[.int .i64 b, .int .i64 k, .int .i64 m]] w (OkPost w c (l ++ [⟨b, k, m⟩]) (n + 1)) := by
  have hn : l.length = n := by have := hv.len; simpa using this
  subst hn
  refine (putR_any c A cap l b k m w hv ht).mono fun e w' ⟨hb, h⟩ => ?_
  rw [hc] at h
  rcases h with ⟨h, _⟩ | ⟨_, A', c', he, hs, hf⟩
  · exact absurd rfl h
  · exact ⟨A', c', he, hs, hb, hf⟩
theorem putR_no {c : Cl} {A : Option Addr} {n cap : Nat} {l : List Ac} {b k m : Int} {w : World} {code : Int} (hv : SV w 3 A n cap (l.map encAc)) (ht : tameB l = true) (hc : putC c.bkd l ⟨b, k, m⟩ = code) (h0 : code ≠ 0) :
    Calls Try.prog 17 #[.agg #[.int .i64 c.id, .int .i64 c.pol, .int .i64 c.per, .int .i64 c.loss, .int .i64 c.bkd, .int .i64 c.ev, .slice A n cap], .agg #[.int .i64 b, .int .i64 k, .int .i64 m]] w (NoPost w code) := by
  have hn : l.length = n := by have := hv.len; simpa using this
  subst hn
  refine (putR_any c A cap l b k m w hv ht).mono fun e w' ⟨hb, h⟩ => ?_
  rw [hc] at h
  rcases h with ⟨_, he⟩ | ⟨h, _⟩
  · exact ⟨he, hb⟩
  · exact absurd h h0

/-- A slice is as it was behind a store into another block. -/
theorem SV.far {w : World} {sz n cap : Nat} {A : Option Addr} {rows : List (List Value)} (h : SV w sz A n cap rows) {p : Addr} (hp : ∀ kk, blk A = some kk → kk ≠ p.block) (u : Value) : SV (w.setCell p u) sz A n cap rows := by
  refine ⟨fun i row hr => ?_, h.len, h.le, h.most, h.nil⟩
  obtain ⟨b, off, hA, hb, hc⟩ := h.sl i row hr
  have hne : b ≠ p.block := hp b (by rw [hA]; rfl)
  refine ⟨b, off, hA, by simpa using hb, fun j v hv => ?_⟩
  rw [World.cell?_of_block (w := w)]
  · exact hc j v hv
  · exact heap_setCell_other w p b u hne
theorem SV.drew {w : World} {sz n cap : Nat} {A : Option Addr} {rows : List (List Value)} (h : SV w sz A n cap rows) : SV w.drew sz A n cap rows := h.below (Below.refl _ _).drew
theorem SV.alloc {w : World} {sz n cap : Nat} {A : Option Addr} {rows : List (List Value)} (h : SV w sz A n cap rows) (o : Obj) : SV (w.alloc o) sz A n cap rows := h.below ((Below.refl _ _).alloc (Nat.le_refl _) _)
theorem sv_far7 {w : World} {sz n cap : Nat} {A : Option Addr} {rows : List (List Value)} (h : SV w sz A n cap rows) {g : Nat} (hne : ∀ kk, blk A = some kk → kk ≠ g) (u0 u1 u2 u3 u4 u5 u6 : Value) :
    SV (((((((w.setCell ⟨g, 0, none⟩ u0).setCell ⟨g, 1, none⟩ u1).setCell ⟨g, 2, none⟩ u2).setCell ⟨g, 3, none⟩ u3).setCell ⟨g, 4, none⟩ u4).setCell ⟨g, 5, none⟩ u5).setCell ⟨g, 6, none⟩ u6) sz A n cap rows :=
  ((((((h.far (p := ⟨g, 0, none⟩) hne u0).far (p := ⟨g, 1, none⟩) hne u1).far (p := ⟨g, 2, none⟩) hne u2).far (p := ⟨g, 3, none⟩) hne u3).far (p := ⟨g, 4, none⟩) hne u4).far (p := ⟨g, 5, none⟩) hne u5).far (p := ⟨g, 6, none⟩) hne u6
theorem set7' {w : World} {g : Nat} {t : TypeId} {v0 v1 v2 v3 v4 v5 v6 : Value} (h : Blk w g t #[v0, v1, v2, v3, v4, v5, v6]) (u0 u1 u2 u3 u4 u5 u6 : Value) :
    Blk (((((((w.setCell ⟨g, 0, none⟩ u0).setCell ⟨g, 1, none⟩ u1).setCell ⟨g, 2, none⟩ u2).setCell ⟨g, 3, none⟩ u3).setCell ⟨g, 4, none⟩ u4).setCell ⟨g, 5, none⟩ u5).setCell ⟨g, 6, none⟩ u6) g t #[u0, u1, u2, u3, u4, u5, u6] := by
  have h6 := ((((((h.set_ 0 u0).set_ 1 u1).set_ 2 u2).set_ 3 u3).set_ 4 u4).set_ 5 u5).set_ 6 u6
  simpa using h6
theorem blk_far7 {w : World} {g' g : Nat} {t : TypeId} {cs : Array Value} (h : Blk w g' t cs) (hne : g' ≠ g) (u0 u1 u2 u3 u4 u5 u6 : Value) :
    Blk (((((((w.setCell ⟨g, 0, none⟩ u0).setCell ⟨g, 1, none⟩ u1).setCell ⟨g, 2, none⟩ u2).setCell ⟨g, 3, none⟩ u3).setCell ⟨g, 4, none⟩ u4).setCell ⟨g, 5, none⟩ u5).setCell ⟨g, 6, none⟩ u6) g' t cs :=
  ((((((h.far (p := ⟨g, 0, none⟩) hne u0).far (p := ⟨g, 1, none⟩) hne u1).far (p := ⟨g, 2, none⟩) hne u2).far (p := ⟨g, 3, none⟩) hne u3).far (p := ⟨g, 4, none⟩) hne u4).far (p := ⟨g, 5, none⟩) hne u5).far (p := ⟨g, 6, none⟩) hne u6

theorem kept_al {wr w2 : World} {o : Obj} {b q : Nat} {u : Value} (hb : Below (wr.alloc o).drew.heap.size (wr.alloc o).drew w2) (h : wr.cell? ⟨b, q, none⟩ = some u) : w2.cell? ⟨b, q, none⟩ = some u :=
  kept hb (kept (((Below.refl _ _).alloc (Nat.le_refl _) o).drew) h)
/-- The loop's state: the box of the file, the box of the result, the file's acts. -/
structure Mk (w : World) (c : Cl) (G : Nat) (l : List Ac) (A : Option Addr) (cap : Nat) (wx : World) : Prop where
  f : Blk wx G 32 (boxC c A l.length cap)
  z : Blk wx (w.heap.size + 1) 32 zeroF
  s : SV wx 3 A l.length cap (l.map encAc)
  fr : ∀ kk, blk A = some kk → G < kk
  lt : ∀ kk, blk A = some kk → kk < wx.heap.size
  far : w.heap.size + 1 < G
  bel : Below w.heap.size w wx
theorem Mk.below {w wx wy : World} {c : Cl} {G : Nat} {l : List Ac} {A : Option Addr} {cap : Nat} (h : Mk w c G l A cap wx) (hb : Below wx.heap.size wx wy) : Mk w c G l A cap wy :=
  ⟨h.f.below hb h.f.lt, h.z.below hb h.z.lt, h.s.below hb, h.fr, fun kk hk => Nat.lt_of_lt_of_le (h.lt kk hk) hb.size, h.far, chain h.bel hb⟩
theorem Mk.drew {w wx : World} {c : Cl} {G : Nat} {l : List Ac} {A : Option Addr} {cap : Nat} (h : Mk w c G l A cap wx) : Mk w c G l A cap wx.drew := h.below (Below.refl _ _).drew
theorem Mk.alloc {w wx : World} {c : Cl} {G : Nat} {l : List Ac} {A : Option Addr} {cap : Nat} (h : Mk w c G l A cap wx) (o : Obj) : Mk w c G l A cap (wx.alloc o) := h.below ((Below.refl _ _).alloc (Nat.le_refl _) _)

/-- Behind a call of Put that went well, and behind one that did not. -/
def CutY (w : World) (c : Cl) (G : Nat) (R : List Ac) (a : Ac) (A : Option Addr) (cap : Nat) (t u : Value) (wx : World) : Prop :=
  ∃ X A2 c2, t = .pointer (some ⟨X, 0, none⟩) ∧ u = .int .i64 0 ∧ Blk wx X 32 (boxC c A2 (R.length + 1) c2) ∧ X ≠ G ∧ Mk w c G R A cap wx ∧ SV wx 3 A2 (R.length + 1) c2 ((R ++ [a]).map encAc) ∧ ∀ kk, blk A2 = some kk → G < kk
def CutN (w : World) (c : Cl) (G : Nat) (R : List Ac) (code : Int) (A : Option Addr) (cap : Nat) (u : Value) (wx : World) : Prop := u = .int .i64 code ∧ Mk w c G R A cap wx
theorem Mk.far7 {w wx : World} {c : Cl} {G X : Nat} {l : List Ac} {A : Option Addr} {cap : Nat} (h : Mk w c G l A cap wx) (hX : X ≠ G) (hX2 : X ≠ w.heap.size + 1) (hA : ∀ kk, blk A = some kk → kk ≠ X) (hb : w.heap.size ≤ X) (u0 u1 u2 u3 u4 u5 u6 : Value) :
    Mk w c G l A cap (((((((wx.setCell ⟨X, 0, none⟩ u0).setCell ⟨X, 1, none⟩ u1).setCell ⟨X, 2, none⟩ u2).setCell ⟨X, 3, none⟩ u3).setCell ⟨X, 4, none⟩ u4).setCell ⟨X, 5, none⟩ u5).setCell ⟨X, 6, none⟩ u6) :=
  ⟨blk_far7 h.f (by omega) _ _ _ _ _ _ _, blk_far7 h.z (by omega) _ _ _ _ _ _ _, sv_far7 h.s hA _ _ _ _ _ _ _, h.fr, fun kk hk => by have := h.lt kk hk; simpa using this, h.far, bel7 h.bel hb _ _ _ _ _ _ _⟩
theorem sv_lt {w : World} {sz n cap kk : Nat} {A : Option Addr} {rows : List (List Value)} (h : SV w sz A n cap rows) (hn : 0 < n) (hk : blk A = some kk) : kk < w.heap.size := by
  obtain ⟨r, hr⟩ := get_of (l := rows) (k := 0) (by rw [h.len]; exact hn)
  obtain ⟨b, off, hA, hb, _⟩ := h.sl 0 r hr
  subst hA
  simp [blk] at hk
  omega
theorem cutY1 {w wr w2 : World} {c : Cl} {G : Nat} {R : List Ac} {a : Ac} {A A2 : Option Addr} {cap c2 : Nat} (hM : Mk w c G R A cap wr)
    (hs : SV w2 3 A2 (R.length + 1) c2 ((R ++ [a]).map encAc)) (hb : Below (wr.heap.size + 1) (wr.alloc (.cells zeroF 32)) w2) (hf : ∀ kk, blk A2 = some kk → wr.heap.size + 1 ≤ kk) :
    CutY w c G R a A cap (.pointer (some ⟨wr.heap.size, 0, none⟩)) (.int .i64 0) (((((((w2.setCell ⟨wr.heap.size, 0, none⟩ (.int .i64 c.id)).setCell ⟨wr.heap.size, 1, none⟩ (.int .i64 c.pol)).setCell ⟨wr.heap.size, 2, none⟩ (.int .i64 c.per)).setCell ⟨wr.heap.size, 3, none⟩ (.int .i64 c.loss)).setCell ⟨wr.heap.size, 4, none⟩ (.int .i64 c.bkd)).setCell ⟨wr.heap.size, 5, none⟩ (.int .i64 c.ev)).setCell ⟨wr.heap.size, 6, none⟩ (.slice A2 (R.length + 1) c2)) := by
  have hG := hM.f.lt
  have hfar := hM.far
  have hM2 : Mk w c G R A cap w2 := (hM.alloc _).below (hb.mono (by simp))
  refine ⟨wr.heap.size, A2, c2, rfl, rfl, set7 ((Blk.new wr _ _).below hb (by omega)) _ _ _ _ _ _ _, by omega, hM2.far7 (by omega) (by omega) (fun kk hk => by have := hM.lt kk hk; omega) (by omega) _ _ _ _ _ _ _, sv_far7 hs (fun kk hk => by have := hf kk hk; omega) _ _ _ _ _ _ _, fun kk hk => by have := hf kk hk; omega⟩
theorem cutY2 {w wr w2 : World} {c : Cl} {G : Nat} {R : List Ac} {a : Ac} {A A2 : Option Addr} {cap c2 : Nat} (hM : Mk w c G R A cap wr)
    (hs : SV w2 3 A2 (R.length + 1) c2 ((R ++ [a]).map encAc)) (hb : Below wr.heap.size wr w2) (hf : ∀ kk, blk A2 = some kk → wr.heap.size ≤ kk) :
    CutY w c G R a A cap (.pointer (some ⟨w2.heap.size, 0, none⟩)) (.int .i64 0) (w2.alloc (.cells #[.int .i64 c.id, .int .i64 c.pol, .int .i64 c.per, .int .i64 c.loss, .int .i64 c.bkd, .int .i64 c.ev, .slice A2 (R.length + 1) c2] 32)) := by
  have hG := hM.f.lt
  have hsz := hb.size
  exact ⟨w2.heap.size, A2, c2, rfl, rfl, Blk.new _ _ _, by omega, (hM.below hb).alloc _, hs.alloc _, fun kk hk => by have := hf kk hk; omega⟩

theorem cutN1 {w wr w2 : World} {c : Cl} {G : Nat} {R : List Ac} {code : Int} {A : Option Addr} {cap : Nat} (hM : Mk w c G R A cap wr) (hb : Below (wr.heap.size + 1) (wr.alloc (.cells zeroF 32)) w2) (u0 u1 u2 u3 u4 u5 u6 : Value) :
    CutN w c G R code A cap (.int .i64 code) (((((((w2.setCell ⟨wr.heap.size, 0, none⟩ u0).setCell ⟨wr.heap.size, 1, none⟩ u1).setCell ⟨wr.heap.size, 2, none⟩ u2).setCell ⟨wr.heap.size, 3, none⟩ u3).setCell ⟨wr.heap.size, 4, none⟩ u4).setCell ⟨wr.heap.size, 5, none⟩ u5).setCell ⟨wr.heap.size, 6, none⟩ u6) := by
  have hG := hM.f.lt
  have hfar := hM.far
  have hM2 : Mk w c G R A cap w2 := (hM.alloc _).below (hb.mono (by simp))
  exact ⟨rfl, hM2.far7 (by omega) (by omega) (fun kk hk => by have := hM.lt kk hk; omega) (by omega) _ _ _ _ _ _ _⟩
theorem cutN2 {w wr w2 : World} {c : Cl} {G : Nat} {R : List Ac} {code : Int} {A : Option Addr} {cap : Nat} {o : Obj} (hM : Mk w c G R A cap wr) (hb : Below wr.heap.size wr w2) : CutN w c G R code A cap (.int .i64 code) (w2.alloc o) :=
  ⟨rfl, (hM.below hb).alloc _⟩
theorem mk_put {w wx : World} {c : Cl} {G : Nat} {R : List Ac} {a : Ac} {A A2 : Option Addr} {cap c2 : Nat} (hM : Mk w c G R A cap wx) (hs : SV wx 3 A2 (R.length + 1) c2 ((R ++ [a]).map encAc)) (hf : ∀ kk, blk A2 = some kk → G < kk) :
    Mk w c G (R ++ [a]) A2 c2 (((((((wx.setCell ⟨G, 0, none⟩ (.int .i64 c.id)).setCell ⟨G, 1, none⟩ (.int .i64 c.pol)).setCell ⟨G, 2, none⟩ (.int .i64 c.per)).setCell ⟨G, 3, none⟩ (.int .i64 c.loss)).setCell ⟨G, 4, none⟩ (.int .i64 c.bkd)).setCell ⟨G, 5, none⟩ (.int .i64 c.ev)).setCell ⟨G, 6, none⟩ (.slice A2 (R.length + 1) c2)) := by
  have hfar := hM.far
  have e : (R ++ [a]).length = R.length + 1 := by simp
  refine ⟨?_, blk_far7 hM.z (by omega) _ _ _ _ _ _ _, ?_, hf, fun kk hk => by have := sv_lt hs (by omega) hk; simpa using this, hfar, bel7 hM.bel (by omega) _ _ _ _ _ _ _⟩
  · have h := hM.f
    unfold boxC at h ⊢
    rw [e]
    exact set7' h _ _ _ _ _ _ _
  · rw [e]
    exact sv_far7 hs (fun kk hk => by have := hf kk hk; omega) _ _ _ _ _ _ _
def MadePost (w : World) (c : Cl) (l : List Ac) (e : Ending) (w' : World) : Prop :=
  ∃ A' c', e = .returned (.agg #[.int .i64 c.id, .int .i64 c.pol, .int .i64 c.per, .int .i64 c.loss, .int .i64 c.bkd, .int .i64 c.ev, .slice A' l.length c']) ∧ SV w' 3 A' l.length c' (l.map encAc) ∧ Below w.heap.size w w'

set_option maxRecDepth 100000 in
set_option maxHeartbeats 4000000 in
theorem made_any (c : Cl) (A : Option Addr) (cap : Nat) (l : List Ac) (w : World) (hs : SV w 3 A l.length cap (l.map encAc)) (hm : l.length ≤ 100) :
    Calls Try.prog 21 #[.agg #[.int .i64 c.id, .int .i64 c.pol, .int .i64 c.per, .int .i64 c.loss, .int .i64 c.bkd, .int .i64 c.ev], .slice A l.length cap] w (MadePost w c (madeL c.bkd l)) := by
  have HS := hide hs
  clear hs
  go_enter Try.func21, Try.ntmps21
  go_wp2_with fail
  refine (open_any c _).mono ?_
  rintro e w1 ⟨rfl, hb1⟩
  have hM : Mk w c w1.heap.size [] none 0 (w1.alloc (.cells #[.int .i64 c.id, .int .i64 c.pol, .int .i64 c.per, .int .i64 c.loss, .int .i64 c.bkd, .int .i64 c.ev, .slice none 0 0] 32)) := by
    have hz := hb1.size
    simp at hz
    exact ⟨Blk.new _ _ _, ((Blk.new' (w := w.alloc _) (by simp)).below hb1 (by simp)).alloc _, sv_nil _, (fun kk hk => by cases hk), (fun kk hk => by cases hk), by omega, chain (((Below.refl _ _).alloc (Nat.le_refl _) _).alloc (by simp) _) hb1 |>.alloc (by omega) _⟩
  have HM := hide hM
  go_wp2_with fail
  clear hM hb1
  obtain ⟨G, hG⟩ : ∃ G, w1.heap.size = G := ⟨_, rfl⟩
  rw [hG] at HM ⊢
  clear hG
  go_loopw [6] (fun i wr => ∃ (k : Nat) (A' : Option Addr) (cap' : Nat), k ≤ l.length ∧ i = .int .i64 k ∧ Mk w c G (madeL c.bkd (l.take k)) A' cap' wr) (fun i _ => l.length - (intOf i).toNat)
  case atStart => exact ⟨0, none, 0, Nat.zero_le _, rfl, HM.out⟩
  case round =>
    obtain ⟨k, A', cap', hk, rfl, hM⟩ := hrel
    have HM := hide hM
    by_cases hlt : k < l.length
    · obtain ⟨⟨ab, ak, am⟩, hx⟩ := get_of hlt
      obtain ⟨bb, off, rfl, hbl, hc0, hc1, hc2⟩ := ((HS.out.sl.below hM.bel).more hM.bel.size).ac hx
      simp only at hc0 hc1 hc2
      have HT := hide (madeL_take (bkd := c.bkd) hx)
      have hlen := madeL_len c.bkd _ (l.take k) rfl
      rw [List.length_take] at hlen
      have hml : (madeL c.bkd (l.take k)).length ≤ 2000 := by omega
      obtain ⟨R, hR⟩ : ∃ R, madeL c.bkd (l.take k) = R := ⟨_, rfl⟩
      rw [hR] at hM HT hml
      have f0 := hM.f.cell 0
      have f1 := hM.f.cell 1
      have f2 := hM.f.cell 2
      have f3 := hM.f.cell 3
      have f4 := hM.f.cell 4
      have f5 := hM.f.cell 5
      have f6 := hM.f.cell 6
      simp [boxC] at f0 f1 f2 f3 f4 f5 f6
      have hz := hM.f.lt
      have HM := hide hM
      have hk0 : (0 : Int) ≤ (k : Int) := by omega
      have hk1 : (k : Int) < (l.length : Int) := by omega
      clear hx hlen hR hM
      by_cases hc : putC c.bkd R ⟨ab, ak, am⟩ = 0
      · go_upto_region 5 with fail
        go_cut [7, 8] from 11 to 28 (fun t u wx => CutY w c G R ⟨ab, ak, am⟩ A' cap' t u wx)
        case first =>
          go_region_held3 (fun w' => w'.cell? ⟨G, 0, none⟩ = some (.int .i64 c.id) ∧ w'.cell? ⟨G, 1, none⟩ = some (.int .i64 c.pol) ∧ w'.cell? ⟨G, 2, none⟩ = some (.int .i64 c.per) ∧ w'.cell? ⟨G, 3, none⟩ = some (.int .i64 c.loss) ∧ w'.cell? ⟨G, 4, none⟩ = some (.int .i64 c.bkd) ∧ w'.cell? ⟨G, 5, none⟩ = some (.int .i64 c.ev) ∧ w'.cell? ⟨G, 6, none⟩ = some (.slice A' R.length cap') ∧ w'.cell? ⟨bb, off + k * 3, none⟩ = some (.int .i64 ab) ∧ w'.cell? ⟨bb, off + k * 3 + 1, none⟩ = some (.int .i64 ak) ∧ w'.cell? ⟨bb, off + k * 3 + 2, none⟩ = some (.int .i64 am)) (first | with_reducible exact ⟨f0, f1, f2, f3, f4, f5, f6, hc0, hc1, hc2⟩ | with_reducible exact ⟨cell_far7 f0 (by omega), cell_far7 f1 (by omega), cell_far7 f2 (by omega), cell_far7 f3 (by omega), cell_far7 f4 (by omega), cell_far7 f5 (by omega), cell_far7 f6 (by omega), cell_far7 hc0 (by omega), cell_far7 hc1 (by omega), cell_far7 hc2 (by omega)⟩ | go_keep)
            (first | (go_at_call 16
                      refine (put_ok (c := c) (A := A') (n := R.length) (cap := cap') (l := R) (b := ab) (k := ak) (m := am) ((HM.out.alloc (.cells zeroF 32)).drew.s) hml hc).mono ?_
                      rintro e w2 ⟨A2, c2, rfl, hs2, hb2, hf2⟩
                      have hX := Blk.below (Blk.drew (Blk.new wr 32 zeroF)) hb2 (Blk.lt (Blk.drew (Blk.new wr 32 zeroF)))
                      have f0 := kept_al hb2 f0
                      have f1 := kept_al hb2 f1
                      have f2 := kept_al hb2 f2
                      have f3 := kept_al hb2 f3
                      have f4 := kept_al hb2 f4
                      have f5 := kept_al hb2 f5
                      have f6 := kept_al hb2 f6
                      have hc0 := kept_al hb2 hc0
                      have hc1 := kept_al hb2 hc1
                      have hc2 := kept_al hb2 hc2
                      have x0 := hX.cell 0
                      have t0 := hX.frozen 0
                      have x1 := hX.cell 1
                      have t1 := hX.frozen 1
                      have x2 := hX.cell 2
                      have t2 := hX.frozen 2
                      have x3 := hX.cell 3
                      have t3 := hX.frozen 3
                      have x4 := hX.cell 4
                      have t4 := hX.frozen 4
                      have x5 := hX.cell 5
                      have t5 := hX.frozen 5
                      have x6 := hX.cell 6
                      have t6 := hX.frozen 6
                      have hXl := hX.lt
                      simp [zeroF] at x0 x1 x2 x3 x4 x5 x6)
                   | (go_at_call 16
                      refine (put_ok (c := c) (A := A') (n := R.length) (cap := cap') (l := R) (b := ab) (k := ak) (m := am) (HM.out.drew.s) hml hc).mono ?_
                      rintro e w2 ⟨A2, c2, rfl, hs2, hb2, hf2⟩
                      have f0 := kept hb2 f0
                      have f1 := kept hb2 f1
                      have f2 := kept hb2 f2
                      have f3 := kept hb2 f3
                      have f4 := kept hb2 f4
                      have f5 := kept hb2 f5
                      have f6 := kept hb2 f6
                      have hc0 := kept hb2 hc0
                      have hc1 := kept hb2 hc1
                      have hc2 := kept hb2 hc2))
          all_goals
            go_wp2_with fail
            go_meet
            first
              | with_reducible exact cutY1 HM.out hs2 (bel_undrew (by simpa using hb2)) (by simpa using hf2)
              | with_reducible exact cutY2 HM.out hs2 (bel_undrew (by simpa using hb2)) (by simpa using hf2)
        case rest =>
          clear f0 f1 f2 f3 f4 f5 f6 hc0 hc1 hc2 hz HM
          obtain ⟨X, A2, c2, rfl, rfl, hX, hne, hM2, hs2, hf2⟩ := hcut
          have hp := mk_put hM2 hs2 hf2
          rw [show R ++ [⟨ab, ak, am⟩] = madeL c.bkd (l.take (k + 1)) by rw [HT.out, putL, if_pos hc]] at hp
          have HP := hide hp
          have x0 := hX.cell 0
          have x1 := hX.cell 1
          have x2 := hX.cell 2
          have x3 := hX.cell 3
          have x4 := hX.cell 4
          have x5 := hX.cell 5
          have x6 := hX.cell 6
          have y0 := hM2.f.cell 0
          have t0 := hM2.f.frozen 0
          have y1 := hM2.f.cell 1
          have t1 := hM2.f.frozen 1
          have y2 := hM2.f.cell 2
          have t2 := hM2.f.frozen 2
          have y3 := hM2.f.cell 3
          have t3 := hM2.f.frozen 3
          have y4 := hM2.f.cell 4
          have t4 := hM2.f.frozen 4
          have y5 := hM2.f.cell 5
          have t5 := hM2.f.frozen 5
          have y6 := hM2.f.cell 6
          have t6 := hM2.f.frozen 6
          simp [boxC] at x0 x1 x2 x3 x4 x5 x6 y0 y1 y2 y3 y4 y5 y6
          have hXl := hX.lt
          have hGl := hM2.f.lt
          clear hp hX hM2 hs2 hf2 HT hc
          go_wp2_with fail
          go_roundw
          case rel => exact ⟨k + 1, A2, c2, by omega, by go_num, HP.out⟩
          case measure => simp [intOf]; omega
      · have hml' : R.length ≤ 9223372036854775807 := by omega
        go_upto_region 5 with fail
        go_cut [7, 8] from 11 to 28 (fun _ u wx => CutN w c G R (putC c.bkd R ⟨ab, ak, am⟩) A' cap' u wx)
        case first =>
          go_region_held3 (fun w' => w'.cell? ⟨G, 0, none⟩ = some (.int .i64 c.id) ∧ w'.cell? ⟨G, 1, none⟩ = some (.int .i64 c.pol) ∧ w'.cell? ⟨G, 2, none⟩ = some (.int .i64 c.per) ∧ w'.cell? ⟨G, 3, none⟩ = some (.int .i64 c.loss) ∧ w'.cell? ⟨G, 4, none⟩ = some (.int .i64 c.bkd) ∧ w'.cell? ⟨G, 5, none⟩ = some (.int .i64 c.ev) ∧ w'.cell? ⟨G, 6, none⟩ = some (.slice A' R.length cap') ∧ w'.cell? ⟨bb, off + k * 3, none⟩ = some (.int .i64 ab) ∧ w'.cell? ⟨bb, off + k * 3 + 1, none⟩ = some (.int .i64 ak) ∧ w'.cell? ⟨bb, off + k * 3 + 2, none⟩ = some (.int .i64 am)) (first | with_reducible exact ⟨f0, f1, f2, f3, f4, f5, f6, hc0, hc1, hc2⟩ | with_reducible exact ⟨cell_far7 f0 (by omega), cell_far7 f1 (by omega), cell_far7 f2 (by omega), cell_far7 f3 (by omega), cell_far7 f4 (by omega), cell_far7 f5 (by omega), cell_far7 f6 (by omega), cell_far7 hc0 (by omega), cell_far7 hc1 (by omega), cell_far7 hc2 (by omega)⟩ | go_keep)
            (first | (go_at_call 16
                      refine (put_no (c := c) (A := A') (n := R.length) (cap := cap') (l := R) (b := ab) (k := ak) (m := am) ((HM.out.alloc (.cells zeroF 32)).drew.s) hml' rfl hc).mono ?_
                      rintro e w2 ⟨rfl, hb2⟩
                      have hX := Blk.below (Blk.drew (Blk.new wr 32 zeroF)) hb2 (Blk.lt (Blk.drew (Blk.new wr 32 zeroF)))
                      have f0 := kept_al hb2 f0
                      have f1 := kept_al hb2 f1
                      have f2 := kept_al hb2 f2
                      have f3 := kept_al hb2 f3
                      have f4 := kept_al hb2 f4
                      have f5 := kept_al hb2 f5
                      have f6 := kept_al hb2 f6
                      have hc0 := kept_al hb2 hc0
                      have hc1 := kept_al hb2 hc1
                      have hc2 := kept_al hb2 hc2
                      have x0 := hX.cell 0
                      have t0 := hX.frozen 0
                      have x1 := hX.cell 1
                      have t1 := hX.frozen 1
                      have x2 := hX.cell 2
                      have t2 := hX.frozen 2
                      have x3 := hX.cell 3
                      have t3 := hX.frozen 3
                      have x4 := hX.cell 4
                      have t4 := hX.frozen 4
                      have x5 := hX.cell 5
                      have t5 := hX.frozen 5
                      have x6 := hX.cell 6
                      have t6 := hX.frozen 6
                      have hXl := hX.lt
                      simp [zeroF] at x0 x1 x2 x3 x4 x5 x6)
                   | (go_at_call 16
                      refine (put_no (c := c) (A := A') (n := R.length) (cap := cap') (l := R) (b := ab) (k := ak) (m := am) (HM.out.drew.s) hml' rfl hc).mono ?_
                      rintro e w2 ⟨rfl, hb2⟩
                      have f0 := kept hb2 f0
                      have f1 := kept hb2 f1
                      have f2 := kept hb2 f2
                      have f3 := kept hb2 f3
                      have f4 := kept hb2 f4
                      have f5 := kept hb2 f5
                      have f6 := kept hb2 f6
                      have hc0 := kept hb2 hc0
                      have hc1 := kept hb2 hc1
                      have hc2 := kept hb2 hc2))
          all_goals
            go_wp2_with fail
            go_meet
            first
              | with_reducible exact cutN1 HM.out (bel_undrew (by simpa using hb2)) _ _ _ _ _ _ _
              | with_reducible exact cutN2 HM.out (bel_undrew (by simpa using hb2))
        case rest =>
          clear f0 f1 f2 f3 f4 f5 f6 hc0 hc1 hc2 hz HM
          obtain ⟨rfl, hM2⟩ := hcut
          have hp := hM2
          rw [show R = madeL c.bkd (l.take (k + 1)) by rw [HT.out, putL, if_neg hc]] at hp
          have HP := hide hp
          obtain ⟨code, hcode⟩ : ∃ x, putC c.bkd R ⟨ab, ak, am⟩ = x := ⟨_, rfl⟩
          rw [hcode] at hc ⊢
          have hcb : (code == 0) = false := by simpa using hc
          clear hp hM2 HT hcode
          go_wp2_with fail
          go_roundw
          case rel => exact ⟨k + 1, A', cap', by omega, by go_num, HP.out⟩
          case measure => simp [intOf]; omega
    · obtain rfl : k = l.length := by omega
      rw [List.take_length] at hM
      have y0 := hM.f.cell 0
      have y1 := hM.f.cell 1
      have y2 := hM.f.cell 2
      have y3 := hM.f.cell 3
      have y4 := hM.f.cell 4
      have y5 := hM.f.cell 5
      have y6 := hM.f.cell 6
      have z0 := hM.z.cell 0
      have t0 := hM.z.frozen 0
      have z1 := hM.z.cell 1
      have t1 := hM.z.frozen 1
      have z2 := hM.z.cell 2
      have t2 := hM.z.frozen 2
      have z3 := hM.z.cell 3
      have t3 := hM.z.frozen 3
      have z4 := hM.z.cell 4
      have t4 := hM.z.frozen 4
      have z5 := hM.z.cell 5
      have t5 := hM.z.frozen 5
      have z6 := hM.z.cell 6
      have t6 := hM.z.frozen 6
      simp [boxC, zeroF] at y0 y1 y2 y3 y4 y5 y6 z0 z1 z2 z3 z4 z5 z6
      have hGl := hM.f.lt
      have hfar := hM.far
      have HM := hide hM
      clear hM
      go_wp2_with fail
      exact ret_row (p := 4) (ty := 32) (g := w.heap.size + 1) (t := 32) rfl rfl rfl (set7 HM.out.z _ _ _ _ _ _ _) Try.underlying32 rfl (by kernel_rfl)
        ⟨A', cap', rfl, sv_far7 HM.out.s (fun kk hk => by have := HM.out.fr kk hk; omega) _ _ _ _ _ _ _, bel7 HM.out.bel (by omega) _ _ _ _ _ _ _⟩
end Go.Proofs.Ytmeneojgdbjlnaa
