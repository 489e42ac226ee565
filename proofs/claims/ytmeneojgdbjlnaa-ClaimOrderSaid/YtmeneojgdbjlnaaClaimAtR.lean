/- A file as it was known on a day: the document's walk. -/
import Derived.Test.YtmeneojgdbjlnaaClaimAt
namespace Go.Proofs.Ytmeneojgdbjlnaa
open Go.RowKit

structure AtI (w : World) (c : Cl) (A : Option Addr) (n cap : Nat) (R : List Ac) (A' : Option Addr) (cap' : Nat) (wx : World) : Prop where
  f : Blk wx w.heap.size 32 (boxC c A n cap)
  z : Blk wx (w.heap.size + 1) 32 zeroF
  o : Blk wx (w.heap.size + 1 + 1) 32 (boxC c A' R.length cap')
  own : OwnS wx (w.heap.size + 1 + 1 + 1) 25 3 A' R.length cap' (R.map encAc)
  bel : Below w.heap.size w wx
section
variable {w wx wy : World} {c : Cl} {A A' : Option Addr} {n cap cap' : Nat} {R : List Ac}
theorem AtI.grown (h : AtI w c A n cap R A' cap' wx) {row : Option Nat} (hg : wx.grownBy wy row) (hr : ∀ j, row = some j → w.heap.size + 1 + 1 < j) :
    Blk wy w.heap.size 32 (boxC c A n cap) ∧ Blk wy (w.heap.size + 1) 32 zeroF ∧ Blk wy (w.heap.size + 1 + 1) 32 (boxC c A' R.length cap') ∧ Below w.heap.size w wy := by
  have hne : ∀ i, i ≤ w.heap.size + 1 + 1 → some i ≠ row := fun i hi he => by have := hr i he.symm; omega
  exact ⟨h.f.grown hg (hne _ (by omega)), h.z.grown hg (hne _ (by omega)), h.o.grown hg (hne _ (by omega)), h.bel.grown hg h.bel.size (fun j hj => by have := hr j hj; omega)⟩
theorem AtI.step (h : AtI w c A n cap R A' cap' wx) {wo : World} {o : Obj} (hwo : wo = wx.alloc o ∨ wo = (wx.alloc o).drew) {x : Ac} {A2 : Option Addr} {c2 : Nat} {wb : World} (ho : OwnS wb (w.heap.size + 1 + 1 + 1) 25 3 A2 (R.length + 1) c2 (R.map encAc ++ [x].map encAc)) (hg : wo.grownBy wb (blk A')) :
    AtI w c A n cap (R ++ [x]) A2 c2 (wb.setCell ⟨w.heap.size + 1 + 1, 6, none⟩ (.slice A2 (R.length + 1) c2)) := by
  have h1 : AtI w c A n cap R A' cap' wo := by
    rcases hwo with rfl | rfl
    · exact ⟨h.f.alloc _, h.z.alloc _, h.o.alloc _, h.own.alloc _, h.bel.alloc h.bel.size _⟩
    · exact ⟨(h.f.alloc _).drew, (h.z.alloc _).drew, (h.o.alloc _).drew, (h.own.alloc _).drew, (h.bel.alloc h.bel.size _).drew⟩
  obtain ⟨g1, g2, g3, g4⟩ := h1.grown hg (fun j hj => by have := (h1.own.lt j hj).1; omega)
  have e : (R ++ [x]).length = R.length + 1 := by simp
  refine ⟨g1.far (by simp; omega) _, g2.far (by simp) _, ?_, ?_, g4.setCell (by simp; omega) _⟩
  · rw [e]
    have := g3.set_ 6 (.slice A2 (R.length + 1) c2)
    simpa [boxC] using this
  · rw [e, List.map_append]
    exact ho.far (fun k hk => by have := (ho.lt k hk).1; simp; omega) _
end
theorem atL_step {d : Int} {l : List Ac} {j : Nat} {x : Ac} (h : l[j]? = some x) (hd : x.b ≤ d) : atL d (l.take (j + 1)) = atL d (l.take j) ++ [x] := by rw [atL_take h, if_pos hd]
theorem atL_stay {d : Int} {l : List Ac} {j : Nat} {x : Ac} (h : l[j]? = some x) (hd : d < x.b) : atL d (l.take (j + 1)) = atL d (l.take j) := by rw [atL_take h, if_neg (by omega), List.append_nil]

set_option maxRecDepth 100000 in
set_option maxHeartbeats 4000000 in
theorem atR_any {c : Cl} {A : Option Addr} {n cap : Nat} {l : List Ac} {d : Int} {w : World} (hs : SV w 3 A n cap (l.map encAc)) (hm : n ≤ 2000) :
    Calls Try.prog 25 #[.agg #[.int .i64 c.id, .int .i64 c.pol, .int .i64 c.per, .int .i64 c.loss, .int .i64 c.bkd, .int .i64 c.ev, .slice A n cap], .int .i64 d] w (MadePost w c (atL d l)) := by
  have hn : l.length = n := by have := hs.len; simpa using this
  subst hn
  have HS := hide hs
  clear hs
  go_enter Try.func25, Try.ntmps25
  go_wp2_with fail
  go_loopw [6] (fun i wr => ∃ (k : Nat) (A' : Option Addr) (cap' : Nat), k ≤ l.length ∧ i = .int .i64 k ∧ AtI w c A l.length cap (atL d (l.take k)) A' cap' wr) (fun i _ => l.length - (intOf i).toNat)
  case atStart => exact ⟨0, none, 0, Nat.zero_le _, rfl, ⟨((Blk.new w _ _).alloc _).alloc _, (Blk.new' (w := w.alloc _) (by simp)).alloc _, Blk.new' (w := (w.alloc _).alloc _) (by simp), OwnS.nil_ _ _ _ _, (((Below.refl w.heap.size w).alloc (Nat.le_refl _) _).alloc (by simp) _).alloc (by simp; omega) _⟩⟩
  case round =>
    obtain ⟨k, A', cap', hk, rfl, hI⟩ := hrel
    by_cases hlt : k < l.length
    · obtain ⟨⟨ab, ak, am⟩, hx⟩ := get_of hlt
      obtain ⟨bb, off, rfl, hbl, hc0, hc1, hc2⟩ := ((HS.out.sl.below hI.bel).more hI.bel.size).ac hx
      simp only at hc0 hc1 hc2
      have hlen := atL_len d (l.take k)
      rw [List.length_take] at hlen
      have hk0 : (0 : Int) ≤ (k : Int) := by omega
      have hk1 : (k : Int) < (l.length : Int) := by omega
      have hml : (atL d (l.take k)).length ≤ 2000 := by omega
      have hf6 := hI.f.cell 6
      have ho6 := hI.o.cell 6
      have hu6 := hI.o.frozen 6
      simp [boxC] at hf6 ho6
      have hfl := hI.f.lt
      have hol := hI.o.lt
      rcases Int.lt_or_le d ab with hd | hd
      · have HX := hide (atL_stay hx hd)
        have HI := hide hI
        clear hx hI hlen
        go_wp2_with fail
        go_roundw
        case rel => exact ⟨k + 1, A', cap', by omega, by go_num, by rw [HX.out]; exact HI.out⟩
        case measure => simp [intOf]; omega
      · have HX := hide (atL_step hx hd)
        obtain ⟨R, hR⟩ : ∃ R, atL d (l.take k) = R := ⟨_, rfl⟩
        rw [hR] at hI HX hml ho6
        have HI := hide hI
        clear hx hI hlen hR
        go_wp2_with fail
        go_region_law (first
          | (refine step_app rfl (.tmp 26) (.tmp 32) 30 rfl elAc (B := w.heap.size + 1 + 1 + 1) (rows := R.map encAc) (A2 := some ⟨_, 0, none⟩) (news := [⟨ab, ak, am⟩].map encAc) rfl ?_ rfl rfl ?_ (okAc [⟨ab, ak, am⟩]) ?_ ?_ ?_ ?_
             · first | exact (HI.out.own.alloc _).drew | exact HI.out.own.alloc _
             · first | exact sl_of_blk (cs := acC ab ak am) (Blk.drew (Blk.new _ _ _)) | exact sl_of_blk (cs := acC ab ak am) (Blk.new _ _ _)
             · (simp only [maxLen]; omega)
             · omega
             · (simp; try omega)
             intro A2 c2 wb ho2 hg2 ha2
             have hI2 := HI.out.step (by first | exact .inr rfl | exact .inl rfl) ho2 hg2
             have HI2 := hide hI2
             have hgo := (AtI.grown (wx := _) ⟨(HI.out.f.alloc _).drew, (HI.out.z.alloc _).drew, (HI.out.o.alloc _).drew, (HI.out.own.alloc _).drew, (HI.out.bel.alloc HI.out.bel.size _).drew⟩ hg2 (fun j hj => by have := (HI.out.own.lt j hj).1; omega)).2.2.1
             have d6 := hgo.cell 6
             have v6 := hgo.frozen 6
             have hol := hgo.lt
             simp [boxC] at d6
             clear hgo hI2))
        all_goals
          go_wp2_with fail
          go_roundw
          case rel => exact ⟨k + 1, A2, c2, by omega, by go_num, by rw [HX.out]; exact HI2.out⟩
          case measure => simp [intOf]; omega
    · obtain rfl : k = l.length := by omega
      rw [List.take_length] at hI
      have y0 := hI.o.cell 0
      have y1 := hI.o.cell 1
      have y2 := hI.o.cell 2
      have y3 := hI.o.cell 3
      have y4 := hI.o.cell 4
      have y5 := hI.o.cell 5
      have y6 := hI.o.cell 6
      have q6 := hI.f.cell 6
      have z0 := hI.z.cell 0
      have z1 := hI.z.cell 1
      have z2 := hI.z.cell 2
      have z3 := hI.z.cell 3
      have z4 := hI.z.cell 4
      have z5 := hI.z.cell 5
      have z6 := hI.z.cell 6
      have t0 := hI.z.frozen 0
      have t1 := hI.z.frozen 1
      have t2 := hI.z.frozen 2
      have t3 := hI.z.frozen 3
      have t4 := hI.z.frozen 4
      have t5 := hI.z.frozen 5
      have t6 := hI.z.frozen 6
      simp [boxC, zeroF] at y0 y1 y2 y3 y4 y5 y6 q6 z0 z1 z2 z3 z4 z5 z6
      have hol := hI.o.lt
      have HI := hide hI
      clear hI
      go_wp2_with fail
      exact ret_row (p := 4) (ty := 32) (g := w.heap.size + 1) (t := 32) rfl rfl rfl (set7 HI.out.z _ _ _ _ _ _ _) Try.underlying32 rfl (by kernel_rfl)
        ⟨A', cap', rfl, (own_far7 HI.out.own (by omega) _ _ _ _ _ _ _).sv, bel7 HI.out.bel (by omega) _ _ _ _ _ _ _⟩
end Go.Proofs.Ytmeneojgdbjlnaa
