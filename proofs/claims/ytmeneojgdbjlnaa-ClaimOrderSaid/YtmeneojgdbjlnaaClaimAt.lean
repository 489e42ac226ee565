/- A file as it was known on a day: the program's walk, and the document's. -/
import Derived.Test.YtmeneojgdbjlnaaClaimH
import Derived.Test.YtmeneojgdbjlnaaClaimDel2
import Derived.Deep.RegionLaw
namespace Go.Proofs.Ytmeneojgdbjlnaa
open Go.RowKit

set_option maxRecDepth 100000 in
set_option maxHeartbeats 4000000 in
theorem at_any {c : Cl} {A : Option Addr} {n cap : Nat} {l : List Ac} {d : Int} {w : World} (hs : SV w 3 A n cap (l.map encAc)) (hm : n ≤ 2000) :
    Calls Try.prog 24 #[.agg #[.int .i64 c.id, .int .i64 c.pol, .int .i64 c.per, .int .i64 c.loss, .int .i64 c.bkd, .int .i64 c.ev, .slice A n cap], .int .i64 d] w (MadePost w c (atL d l)) := by
  have hn : l.length = n := by have := hs.len; simpa using this
  subst hn
  have HS := hide hs
  clear hs
  go_enter Try.func24, Try.ntmps24
  go_wp2_with fail
  refine (clone_any A l.length cap l _ (((HS.out.alloc _).alloc _).alloc _) (by omega)).mono ?_
  rintro e w1 ⟨A1, c1, rfl, ho1, hb1⟩
  have hf := Blk.below (((Blk.new w 32 (boxC c A l.length cap)).alloc (.cells #[.int .i64 d] 3)).alloc (.cells zeroF 32)) hb1 (by simp; omega)
  have hd := Blk.below ((Blk.new (w.alloc (.cells (boxC c A l.length cap) 32)) 3 #[.int .i64 d]).alloc (.cells zeroF 32)) hb1 (by simp)
  have hz := Blk.below (Blk.new ((w.alloc (.cells (boxC c A l.length cap) 32)).alloc (.cells #[.int .i64 d] 3)) 32 zeroF) hb1 (by simp)
  have hbw := chain ((((Below.refl w.heap.size w).alloc (Nat.le_refl _) (.cells (boxC c A l.length cap) 32)).alloc (by simp) (.cells #[.int .i64 d] 3)).alloc (by simp; omega) (.cells zeroF 32)) hb1
  simp at hd hz ho1
  have hq := hd.cell 0
  simp at hq
  have hsz := hz.lt
  clear hb1
  go_wp2_with fail
  refine (del_any A1 c1 (w.heap.size + 1 + 1 + 1) l d (w.heap.size + 1) _ ho1 (by omega) (by omega) (by omega) hq).mono ?_
  rintro e w2 ⟨A2, c2, rfl, ho2, hb2⟩
  have hf2 := hf.below hb2 (by omega)
  have hz2 := hz.below hb2 (by omega)
  have hbw2 := hbw.trans (hb2.mono (by omega))
  clear hf hd hz hbw hb2 ho1 hq
  have y0 := hf2.cell 0
  have y1 := hf2.cell 1
  have y2 := hf2.cell 2
  have y3 := hf2.cell 3
  have y4 := hf2.cell 4
  have y5 := hf2.cell 5
  have y6 := hf2.cell 6
  have s6 := hf2.frozen 6
  have z0 := hz2.cell 0
  have z1 := hz2.cell 1
  have z2 := hz2.cell 2
  have z3 := hz2.cell 3
  have z4 := hz2.cell 4
  have z5 := hz2.cell 5
  have z6 := hz2.cell 6
  have t0 := hz2.frozen 0
  have t1 := hz2.frozen 1
  have t2 := hz2.frozen 2
  have t3 := hz2.frozen 3
  have t4 := hz2.frozen 4
  have t5 := hz2.frozen 5
  have t6 := hz2.frozen 6
  simp [boxC, zeroF] at y0 y1 y2 y3 y4 y5 y6 z0 z1 z2 z3 z4 z5 z6
  have hzl := hz2.lt
  have HZ := hide hz2
  have HO := hide ho2
  have HB := hide hbw2
  clear hf2 hz2 hbw2 ho2
  go_wp2_with fail
  refine ret_row (p := 4) (ty := 32) (g := w.heap.size + 1 + 1) (t := 32) rfl rfl rfl (set7 (HZ.out.far (p := ⟨w.heap.size, 6, none⟩) (by simp; omega) _) _ _ _ _ _ _ _) Try.underlying32 rfl (by kernel_rfl)
    ⟨A2, c2, rfl, ?_, bel7 (HB.out.setCell (p := ⟨w.heap.size, 6, none⟩) (by simp) _) (by omega) _ _ _ _ _ _ _⟩
  exact (own_far7 (HO.out.far (p := ⟨w.heap.size, 6, none⟩) (fun j hj => by have := (HO.out.lt j hj).1; simp; omega) _) (by omega) _ _ _ _ _ _ _).sv
end Go.Proofs.Ytmeneojgdbjlnaa
