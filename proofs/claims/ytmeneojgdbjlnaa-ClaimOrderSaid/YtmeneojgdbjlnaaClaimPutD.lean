/- What is put into a file: its code, its blocks. -/
import Derived.Test.YtmeneojgdbjlnaaClaimC
import Derived.Test.YtmeneojgdbjlnaaMem2
namespace Go.Proofs.Ytmeneojgdbjlnaa
open Go.RowKit

def overB (p : St) (k m : Int) : Bool := decide ((k = 2 ∧ wrap64 (1000000000000000 - p.s) < m) ∨ (k = 3 ∧ wrap64 (1000000000000000 - p.b) < m))
def putC (bkd : Int) (l : List Ac) (a : Ac) : Int :=
  if rightB a = false then 1 else if 2000 ≤ l.length then 2 else if a.b < lastB bkd l then 4 else if (standP l).o = decide (a.k = 5) then 10 else if overB (standP l) a.k a.m = true then 5 else 0
def zeroF : Array Value := #[.int .i64 0, .int .i64 0, .int .i64 0, .int .i64 0, .int .i64 0, .int .i64 0, .slice none 0 0]
def acC (b k m : Int) : Array Value := #[.int .i64 b, .int .i64 k, .int .i64 m]
theorem set7 {w : World} {g : Nat} {t : TypeId} (h : Blk w g t zeroF) (u0 u1 u2 u3 u4 u5 u6 : Value) :
    Blk (((((((w.setCell ⟨g, 0, none⟩ u0).setCell ⟨g, 1, none⟩ u1).setCell ⟨g, 2, none⟩ u2).setCell ⟨g, 3, none⟩ u3).setCell ⟨g, 4, none⟩ u4).setCell ⟨g, 5, none⟩ u5).setCell ⟨g, 6, none⟩ u6) g t #[u0, u1, u2, u3, u4, u5, u6] := by
  have h6 := ((((((h.set_ 0 u0).set_ 1 u1).set_ 2 u2).set_ 3 u3).set_ 4 u4).set_ 5 u5).set_ 6 u6
  simpa [zeroF] using h6
theorem bel7 {B : Nat} {w w' : World} {g : Nat} (h : Below B w w') (hg : B ≤ g) (u0 u1 u2 u3 u4 u5 u6 : Value) :
    Below B w (((((((w'.setCell ⟨g, 0, none⟩ u0).setCell ⟨g, 1, none⟩ u1).setCell ⟨g, 2, none⟩ u2).setCell ⟨g, 3, none⟩ u3).setCell ⟨g, 4, none⟩ u4).setCell ⟨g, 5, none⟩ u5).setCell ⟨g, 6, none⟩ u6) :=
  ((((((h.setCell hg _).setCell hg _).setCell hg _).setCell hg _).setCell hg _).setCell hg _).setCell hg _

/-- The four blocks of a call of Put, in any world of it. -/
structure PutW (w : World) (c : Cl) (A : Option Addr) (n cap : Nat) (b k m : Int) (p : St) (P : Nat) (wx : World) : Prop where
  f : Blk wx w.heap.size 32 (boxC c A n cap)
  a : Blk wx (w.heap.size + 1) 25 (acC b k m)
  z : Blk wx (w.heap.size + 1 + 1) 32 zeroF
  p : Blk wx P 53 p.cells
  far : w.heap.size + 1 + 1 < P
  bel : Below w.heap.size w wx
theorem PutW.below {w wx wy : World} {c : Cl} {A : Option Addr} {n cap : Nat} {b k m : Int} {p : St} {P : Nat} (h : PutW w c A n cap b k m p P wx) (hb : Below wx.heap.size wx wy) : PutW w c A n cap b k m p P wy :=
  ⟨h.f.below hb h.f.lt, h.a.below hb h.a.lt, h.z.below hb h.z.lt, h.p.below hb h.p.lt, h.far, chain h.bel hb⟩
theorem PutW.drew {w wx : World} {c : Cl} {A : Option Addr} {n cap : Nat} {b k m : Int} {p : St} {P : Nat} (h : PutW w c A n cap b k m p P wx) : PutW w c A n cap b k m p P wx.drew := ⟨h.f, h.a, h.z, h.p, h.far, h.bel.drew⟩
theorem PutW.alloc {w wx : World} {c : Cl} {A : Option Addr} {n cap : Nat} {b k m : Int} {p : St} {P : Nat} (h : PutW w c A n cap b k m p P wx) (o : Obj) : PutW w c A n cap b k m p P (wx.alloc o) := ⟨h.f.alloc o, h.a.alloc o, h.z.alloc o, h.p.alloc o, h.far, h.bel.alloc h.bel.size o⟩

/-- What Put leaves: a code and the empty file, or no code and the file with one act more. -/
def PutPost (w : World) (c : Cl) (l : List Ac) (a : Ac) (code : Int) (e : Ending) (w' : World) : Prop :=
  Below w.heap.size w w' ∧ ((code ≠ 0 ∧ e = .returned (.tuple #[.agg zeroF, .int .i64 code])) ∨
    (code = 0 ∧ ∃ A' c', e = .returned (.tuple #[.agg (boxC c A' (l.length + 1) c'), .int .i64 0]) ∧ SV w' 3 A' (l.length + 1) c' ((l ++ [a]).map encAc) ∧ ∀ kk, blk A' = some kk → w.heap.size ≤ kk))
theorem no_post {w wx : World} {c : Cl} {A : Option Addr} {n cap : Nat} {b k m : Int} {p : St} {P : Nat} {fn : Func} {a : Act} {l : List Ac} {x : Ac} {code : Int} {tr : Tmp}
    (h : PutW w c A n cap b k m p P wx) (hc : code ≠ 0) (hr : fn.results = #[.cell 4 32, .tmp tr]) (hd : a.defers = []) (hp : a.tmps.getD 4 undef = .pointer (some ⟨w.heap.size + 1 + 1, 0, none⟩)) (hx : a.tmps.getD tr undef = .int .i64 code) :
    bodyPost Try.prog fn (PutPost w c l x code) .ret a (((((((wx.setCell ⟨w.heap.size + 1 + 1, 0, none⟩ (.int .i64 0)).setCell ⟨w.heap.size + 1 + 1, 1, none⟩ (.int .i64 0)).setCell ⟨w.heap.size + 1 + 1, 2, none⟩ (.int .i64 0)).setCell ⟨w.heap.size + 1 + 1, 3, none⟩ (.int .i64 0)).setCell ⟨w.heap.size + 1 + 1, 4, none⟩ (.int .i64 0)).setCell ⟨w.heap.size + 1 + 1, 5, none⟩ (.int .i64 0)).setCell ⟨w.heap.size + 1 + 1, 6, none⟩ (.slice none 0 0)) :=
  ret_row2 hr hd hp hx (set7 h.z _ _ _ _ _ _ _) Try.underlying32 rfl (by kernel_rfl) ⟨bel7 h.bel (by omega) _ _ _ _ _ _ _, .inl ⟨hc, rfl⟩⟩

theorem PutW.grown {w wx wy : World} {c : Cl} {A : Option Addr} {n cap : Nat} {b k m : Int} {p : St} {P : Nat} (h : PutW w c A n cap b k m p P wx) {row : Option Nat} (hg : wx.grownBy wy row) (hr : ∀ j, row = some j → P < j) : PutW w c A n cap b k m p P wy := by
  have hfar := h.far
  have hne : ∀ i, i ≤ P → some i ≠ row := fun i hi he => by have := hr i he.symm; omega
  exact ⟨h.f.grown hg (hne _ (by omega)), h.a.grown hg (hne _ (by omega)), h.z.grown hg (hne _ (by omega)), h.p.grown hg (hne _ (by omega)), h.far, h.bel.grown hg h.bel.size (fun j hj => by have := hr j hj; omega)⟩
theorem PutW.put {w wx : World} {c : Cl} {A A' : Option Addr} {n cap n' cap' : Nat} {b k m : Int} {p : St} {P : Nat} (h : PutW w c A n cap b k m p P wx) : PutW w c A' n' cap' b k m p P (wx.setCell ⟨w.heap.size, 6, none⟩ (.slice A' n' cap')) := by
  have hfar := h.far
  exact ⟨by have := h.f.set_ 6 (.slice A' n' cap'); simpa [boxC] using this, h.a.far (by simp) _, h.z.far (by simp; omega) _, h.p.far (by simp; omega) _, h.far, h.bel.setCell (by simp) _⟩
theorem own_far7 {w : World} {B : Nat} {e : TypeId} {sz n cap : Nat} {A : Option Addr} {rows : List (List Value)} (h : OwnS w B e sz A n cap rows) {g : Nat} (hg : g < B) (u0 u1 u2 u3 u4 u5 u6 : Value) :
    OwnS (((((((w.setCell ⟨g, 0, none⟩ u0).setCell ⟨g, 1, none⟩ u1).setCell ⟨g, 2, none⟩ u2).setCell ⟨g, 3, none⟩ u3).setCell ⟨g, 4, none⟩ u4).setCell ⟨g, 5, none⟩ u5).setCell ⟨g, 6, none⟩ u6) B e sz A n cap rows := by
  have hne : ∀ k, blk A = some k → k ≠ g := fun k hk => by have := (h.lt k hk).1; omega
  exact ((((((h.far (p := ⟨g, 0, none⟩) hne u0).far (p := ⟨g, 1, none⟩) hne u1).far (p := ⟨g, 2, none⟩) hne u2).far (p := ⟨g, 3, none⟩) hne u3).far (p := ⟨g, 4, none⟩) hne u4).far (p := ⟨g, 5, none⟩) hne u5).far (p := ⟨g, 6, none⟩) hne u6
theorem yes_post {w wx : World} {c : Cl} {A0 : Option Addr} {n0 cap0 : Nat} {b k m : Int} {p : St} {P : Nat} {fn : Func} {a : Act} {l : List Ac} {x : Ac} {code : Int} {tr : Tmp} {A : Option Addr} {cap B : Nat}
    (h : PutW w c A0 n0 cap0 b k m p P wx) (ho : OwnS wx B 25 3 A (l.length + 1) cap ((l ++ [x]).map encAc)) (hB : P < B) (hc : code = 0) (hr : fn.results = #[.cell 4 32, .tmp tr]) (hd : a.defers = []) (hp : a.tmps.getD 4 undef = .pointer (some ⟨w.heap.size + 1 + 1, 0, none⟩)) (hx : a.tmps.getD tr undef = .int .i64 0) :
    bodyPost Try.prog fn (PutPost w c l x code) .ret a ((((((((wx.setCell ⟨w.heap.size, 6, none⟩ (.slice A (l.length + 1) cap)).setCell ⟨w.heap.size + 1 + 1, 0, none⟩ (.int .i64 c.id)).setCell ⟨w.heap.size + 1 + 1, 1, none⟩ (.int .i64 c.pol)).setCell ⟨w.heap.size + 1 + 1, 2, none⟩ (.int .i64 c.per)).setCell ⟨w.heap.size + 1 + 1, 3, none⟩ (.int .i64 c.loss)).setCell ⟨w.heap.size + 1 + 1, 4, none⟩ (.int .i64 c.bkd)).setCell ⟨w.heap.size + 1 + 1, 5, none⟩ (.int .i64 c.ev)).setCell ⟨w.heap.size + 1 + 1, 6, none⟩ (.slice A (l.length + 1) cap)) := by
  have hfar := h.far
  have h1 := h.put (A' := A) (n' := l.length + 1) (cap' := cap)
  refine ret_row2 hr hd hp hx (set7 h1.z _ _ _ _ _ _ _) Try.underlying32 rfl (by kernel_rfl) ⟨bel7 h1.bel (by omega) _ _ _ _ _ _ _, .inr ⟨hc, A, cap, rfl, ?_, fun kk hk => by have := (ho.lt kk hk).1; omega⟩⟩
  exact (own_far7 (ho.far (p := ⟨w.heap.size, 6, none⟩) (fun j hj => by have := (ho.lt j hj).1; simp; omega) _) (by omega) _ _ _ _ _ _ _).sv
end Go.Proofs.Ytmeneojgdbjlnaa
