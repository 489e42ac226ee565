/- A triangle that is being made (turned from the tri chapter's text TriH); arguments of 32 and of 16 bits, opened (from ClaimOrd). -/
import Derived.Test.YtndfgglnhkdciaaDoorLadO
namespace Go.Proofs.YtndfgglnhkdciaaDoor
open Go.ChangeShapes Go.WideShapes Go.ChangeAt Go.RowKit

theorem SV.grown {w w' : World} {sz n cap : Nat} {A : Option Addr} {rows : List (List Value)} (h : SV w sz A n cap rows) {row : Option Nat} (hg : w.grownBy w' row) (hne : ∀ kk, blk A = some kk → some kk ≠ row) : SV w' sz A n cap rows := by
  refine ⟨fun i r hr => ?_, h.len, h.le, h.most, h.nil⟩
  obtain ⟨b, off, hA, hb, hc⟩ := h.sl i r hr
  refine ⟨b, off, hA, Nat.lt_of_lt_of_le hb hg.size, fun j u hu => ?_⟩
  rw [World.cell?_of_block (w := w)]
  · exact hc j u hu
  · exact hg.block b hb (hne b (by rw [hA]; rfl))
theorem SV.far {w : World} {sz n cap : Nat} {A : Option Addr} {rows : List (List Value)} (h : SV w sz A n cap rows) {p : Addr} (hp : ∀ kk, blk A = some kk → kk ≠ p.block) (u : Value) : SV (w.setCell p u) sz A n cap rows :=
  h.grown (grown_set w p u) (fun kk hk he => hp kk hk (by simpa using he))
theorem SV.lt {w : World} {sz n cap kk : Nat} {A : Option Addr} {rows : List (List Value)} (h : SV w sz A n cap rows) (hn : 0 < n) (hk : blk A = some kk) : kk < w.heap.size := by
  obtain ⟨r, hr⟩ := get_of (l := rows) (k := 0) (by rw [h.len]; exact hn)
  obtain ⟨b, off, hA, hb, _⟩ := h.sl 0 r hr
  subst hA
  simp [blk] at hk
  omega
theorem elRow : ElT Tryd.prog 22 33 1 24 := ElT.mk' (z := .slice none 0 0) Tryd.underlying22 (by kernel_rfl) rfl (by omega)
theorem okRw (M : List Rw) : RowsOk 1 (M.map encRw) := by
  intro r hr
  obtain ⟨x, _, rfl⟩ := List.mem_map.1 hr
  refine ⟨rfl, fun u hu => ?_⟩
  simp [encRw] at hu
  subst hu; rfl

def triC (f : Int) (A : Option Addr) (n cap : Nat) : Array Value := #[.int .i64 f, .slice A n cap]
/-- The state of a triangle that is being made: its box G, its outer slice (owned, from B on), its rows, apart from both. -/
structure Mat (w : World) (B G : Nat) (f : Int) (R : List Rw) (A : Option Addr) (cap : Nat) (wx : World) : Prop where
  o : Blk wx G 24 (triC f A R.length cap)
  own : OwnS wx B 33 1 A R.length cap (R.map encRw)
  rows : ∀ r ∈ R, SV wx 1 r.A r.l.length r.cap (r.l.map encI)
  apart : ∀ r ∈ R, ∀ kk, blk r.A = some kk → kk < wx.heap.size ∧ kk ≠ G ∧ blk A ≠ some kk
  GB : G < B
  base : w.heap.size ≤ G
  bel : Below w.heap.size w wx
section
variable {w wx wy : World} {B G : Nat} {f : Int} {R : List Rw} {A : Option Addr} {cap : Nat}
theorem Mat.below (h : Mat w B G f R A cap wx) (hb : Below wx.heap.size wx wy) : Mat w B G f R A cap wy :=
  ⟨h.o.below hb h.o.lt, h.own.below hb, fun r hr => (h.rows r hr).below hb, fun r hr kk hk => by have := h.apart r hr kk hk; exact ⟨Nat.lt_of_lt_of_le this.1 hb.size, this.2⟩, h.GB, h.base, chain h.bel hb⟩
/-- One row more. -/
theorem Mat.step (h : Mat w B G f R A cap wx) {wo : World} (hwo : Below wx.heap.size wx wo) {r : Rw} (hr : SV wo 1 r.A r.l.length r.cap (r.l.map encI)) (hl : 0 < r.l.length) (ha : ∀ kk, blk r.A = some kk → kk ≠ G ∧ blk A ≠ some kk) {A2 : Option Addr} {c2 : Nat} {wb : World}
    (ho : OwnS wb B 33 1 A2 (R.length + 1) c2 (R.map encRw ++ [r].map encRw)) (hg : wo.grownBy wb (blk A)) (hat : blk A2 = blk A ∨ blk A2 = some wo.heap.size) :
    Mat w B G f (R ++ [r]) A2 c2 (wb.setCell ⟨G, 1, none⟩ (.slice A2 (R.length + 1) c2)) := by
  have h1 := h.below hwo
  have hG : some G ≠ blk A := fun he => by have := (h1.own.lt G he.symm).1; have := h.GB; omega
  have e : (R ++ [r]).length = R.length + 1 := by simp
  refine ⟨?_, ?_, fun x hx => ?_, fun x hx kk hk => ?_, h.GB, h.base, (h1.bel.grown hg h1.bel.size (fun j hj => by have := (h1.own.lt j hj).1; have := h.GB; have := h.base; omega)).setCell (p := ⟨G, 1, none⟩) h.base _⟩
  · rw [e]
    have := (h1.o.grown hg hG).set_ 1 (.slice A2 (R.length + 1) c2)
    simpa [triC] using this
  · rw [e, List.map_append]
    exact ho.far (fun k hk => by have := (ho.lt k hk).1; have := h.GB; simp; omega) _
  · rcases List.mem_append.1 hx with hx | hx
    · exact ((h1.rows x hx).grown hg (fun kk hk he => (h1.apart x hx kk hk).2.2 he.symm)).far (p := ⟨G, 1, none⟩) (fun kk hk => (h1.apart x hx kk hk).2.1) _
    · simp at hx; subst hx
      exact (hr.grown hg (fun kk hk he => (ha kk hk).2 he.symm)).far (p := ⟨G, 1, none⟩) (fun kk hk => (ha kk hk).1) _
  · have hk1 : kk < wo.heap.size ∧ kk ≠ G ∧ blk A ≠ some kk := by
      rcases List.mem_append.1 hx with hx | hx
      · exact h1.apart x hx kk hk
      · simp at hx; subst hx
        exact ⟨hr.lt hl hk, ha kk hk⟩
    refine ⟨by have := hg.size; simp; omega, hk1.2.1, ?_⟩
    rcases hat with hat | hat
    · rw [hat]; exact hk1.2.2
    · rw [hat]; intro he; cases he; omega
theorem Mat.mv (h : Mat w B G f R A cap wx) : MV wx A R.length cap R := ⟨h.own.sv, h.rows⟩
end
def encU (n : Int) : List Value := [.int .u32 n]
def okU (n : Int) : Prop := 0 ≤ n ∧ n ≤ 4294967295
theorem cells_u32 : Tryd.prog.cellsOf 40 = 1 := by kernel_rfl
theorem leaves_u32 : leaves Tryd.prog 1 40 = some [.int .u32] := by kernel_rfl
section
variable {H : Type} {enc : TypeId × Value → H} {W : World} {r : Reach} {b0 : Nat} {v : Value} {d : DataW H} {p : List MemPlace}
set_option maxRecDepth 100000 in
theorem open_u32s (hv : Value.okWide Tryd.prog W r b0 38 v) (h : DataW.Trod enc Tryd.prog W 0 (fun _ => true) true 38 v d p) :
    ∃ (A : Option Addr) (l : List Int) (cap : Nat), v = .slice A l.length cap ∧ SV W 1 A l.length cap (l.map encU) ∧ ∀ n ∈ l, okU n := by
  obtain ⟨A, l, cap, hv, h1, h2, h3, h4, h5⟩ := rows_of enc Tryd.prog W (α := Int) 1 1 encU okU leaves_u32 cells_u32 rfl (by omega) (fun cs hl => by
    obtain ⟨n1, l1, rfl, w1, h1⟩ := leaf_int enc _ _ hl
    obtain rfl := allLeaf_nil enc _ _ h1
    exact ⟨n1, rfl, by simpa [okU, Lit.wf, IntKind.min, IntKind.max, IntKind.signed, IntKind.bits] using w1⟩) (top_slice enc _ _ Tryd.underlying38 hv h)
  exact ⟨A, l, cap, hv, ⟨h3, List.length_map _, h1, h2, h5⟩, h4⟩
end
theorem Sl.u {w : World} {B k : Nat} {A : Option Addr} {l : List Int} {n : Int} (h : Sl w B 1 A (l.map encU)) (hx : l[k]? = some n) :
    ∃ b off, A = some ⟨b, off, none⟩ ∧ b < B ∧ w.cell? ⟨b, off + k, none⟩ = some (.int .u32 n) := by
  obtain ⟨b, off, hA, hb, hc⟩ := h k (encU n) (by simp [hx])
  exact ⟨b, off, hA, hb, by simpa using hc 0 _ rfl⟩

def encS (n : Int) : List Value := [.int .u16 n]
def okS (n : Int) : Prop := 0 ≤ n ∧ n ≤ 65535
theorem cells_u16 : Tryd.prog.cellsOf 41 = 1 := by kernel_rfl
theorem leaves_u16 : leaves Tryd.prog 1 41 = some [.int .u16] := by kernel_rfl
section
variable {H : Type} {enc : TypeId × Value → H} {W : World} {r : Reach} {b0 : Nat} {v : Value} {d : DataW H} {p : List MemPlace}
set_option maxRecDepth 100000 in
theorem open_u16s (hv : Value.okWide Tryd.prog W r b0 39 v) (h : DataW.Trod enc Tryd.prog W 0 (fun _ => true) true 39 v d p) :
    ∃ (A : Option Addr) (l : List Int) (cap : Nat), v = .slice A l.length cap ∧ SV W 1 A l.length cap (l.map encS) ∧ ∀ n ∈ l, okS n := by
  obtain ⟨A, l, cap, hv, h1, h2, h3, h4, h5⟩ := rows_of enc Tryd.prog W (α := Int) 1 1 encS okS leaves_u16 cells_u16 rfl (by omega) (fun cs hl => by
    obtain ⟨n1, l1, rfl, w1, h1⟩ := leaf_int enc _ _ hl
    obtain rfl := allLeaf_nil enc _ _ h1
    exact ⟨n1, rfl, by simpa [okS, Lit.wf, IntKind.min, IntKind.max, IntKind.signed, IntKind.bits] using w1⟩) (top_slice enc _ _ Tryd.underlying39 hv h)
  exact ⟨A, l, cap, hv, ⟨h3, List.length_map _, h1, h2, h5⟩, h4⟩
end
theorem Sl.s {w : World} {B k : Nat} {A : Option Addr} {l : List Int} {n : Int} (h : Sl w B 1 A (l.map encS)) (hx : l[k]? = some n) :
    ∃ b off, A = some ⟨b, off, none⟩ ∧ b < B ∧ w.cell? ⟨b, off + k, none⟩ = some (.int .u16 n) := by
  obtain ⟨b, off, hA, hb, hc⟩ := h k (encS n) (by simp [hx])
  exact ⟨b, off, hA, hb, by simpa using hc 0 _ rfl⟩

end Go.Proofs.YtndfgglnhkdciaaDoor
