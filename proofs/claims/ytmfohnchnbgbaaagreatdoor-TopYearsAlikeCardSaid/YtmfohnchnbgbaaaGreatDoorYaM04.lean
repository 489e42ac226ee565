/- Part 4 of the proof. -/
import Derived.Deep.MidRow
import Derived.RangeFuncNested
import Derived.RangeFuncBound
import Derived.RangeFuncCalls
import Derived.RangeFuncLeaves
import Derived.RangeFuncBox
import Derived.Shelf.Abstract
import Derived.OwnWalkIn
import Derived.TacticsInMore
import Derived.LoopNIn
import Derived.LoopIn
import Derived.Stop.RegionWithIn
import Derived.Test.YtmfohnchnbgbaaaGreatDoorYaM03
/- What holds, from day to day. -/
namespace Go.Proofs.YtmfohnchnbgbaaaGreatDoor
open Go.RowKit

def CutN (w1 : World) (x : Tm) (q : Value) (wx : World) : Prop :=
  ∃ (G : Nat) (A : Option Addr) (cap : Nat), q = .pointer (some ⟨G, 0, none⟩) ∧ Blk wx G 121 (scC ⟨x.f, 0, true, x.k, x.v, x.a, x.z, A, x.l, cap, 0⟩) ∧ SV wx 5 A x.l.length cap (x.l.map encCv) ∧ (∀ b, blk A = some b → b ≠ G ∧ b < wx.heap.size ∧ w1.heap.size ≤ b) ∧ Below w1.heap.size w1 wx ∧ w1.heap.size ≤ G
section
variable {w : World} {g : Nat} {v0 v1 v2 v3 v4 v5 v6 v7 v8 : Value}
theorem far9 {b o : Nat} {u : Value} (hb : b ≠ g) (h : w.cell? ⟨b, o, none⟩ = some u) : (((((((((w.setCell ⟨g, 0, none⟩ v0).setCell ⟨g, 1, none⟩ v1).setCell ⟨g, 2, none⟩ v2).setCell ⟨g, 3, none⟩ v3).setCell ⟨g, 4, none⟩ v4).setCell ⟨g, 5, none⟩ v5).setCell ⟨g, 6, none⟩ v6).setCell ⟨g, 7, none⟩ v7).setCell ⟨g, 8, none⟩ v8).cell? ⟨b, o, none⟩ = some u := by
  have hb2 : g ≠ b := Ne.symm hb
  rw [World.cell?_setCell_far _ _ _ _ hb2, World.cell?_setCell_far _ _ _ _ hb2, World.cell?_setCell_far _ _ _ _ hb2, World.cell?_setCell_far _ _ _ _ hb2, World.cell?_setCell_far _ _ _ _ hb2, World.cell?_setCell_far _ _ _ _ hb2, World.cell?_setCell_far _ _ _ _ hb2, World.cell?_setCell_far _ _ _ _ hb2, World.cell?_setCell_far _ _ _ _ hb2, h]
theorem own9 {B : Nat} {e : TypeId} {sz n cap : Nat} {A : Option Addr} {rows : List (List Value)} (h : OwnS w B e sz A n cap rows) (hA : ∀ k, blk A = some k → k ≠ g) : OwnS (((((((((w.setCell ⟨g, 0, none⟩ v0).setCell ⟨g, 1, none⟩ v1).setCell ⟨g, 2, none⟩ v2).setCell ⟨g, 3, none⟩ v3).setCell ⟨g, 4, none⟩ v4).setCell ⟨g, 5, none⟩ v5).setCell ⟨g, 6, none⟩ v6).setCell ⟨g, 7, none⟩ v7).setCell ⟨g, 8, none⟩ v8) B e sz A n cap rows :=
  ((((((((h.far (p := ⟨g, 0, none⟩) hA _).far (p := ⟨g, 1, none⟩) hA _).far (p := ⟨g, 2, none⟩) hA _).far (p := ⟨g, 3, none⟩) hA _).far (p := ⟨g, 4, none⟩) hA _).far (p := ⟨g, 5, none⟩) hA _).far (p := ⟨g, 6, none⟩) hA _).far (p := ⟨g, 7, none⟩) hA _).far (p := ⟨g, 8, none⟩) hA _
theorem bel9 {B : Nat} {a : World} (h : Below B a w) (hg : B ≤ g) : Below B a (((((((((w.setCell ⟨g, 0, none⟩ v0).setCell ⟨g, 1, none⟩ v1).setCell ⟨g, 2, none⟩ v2).setCell ⟨g, 3, none⟩ v3).setCell ⟨g, 4, none⟩ v4).setCell ⟨g, 5, none⟩ v5).setCell ⟨g, 6, none⟩ v6).setCell ⟨g, 7, none⟩ v7).setCell ⟨g, 8, none⟩ v8) :=
  ((((((((h.setCell (p := ⟨g, 0, none⟩) hg _).setCell (p := ⟨g, 1, none⟩) hg _).setCell (p := ⟨g, 2, none⟩) hg _).setCell (p := ⟨g, 3, none⟩) hg _).setCell (p := ⟨g, 4, none⟩) hg _).setCell (p := ⟨g, 5, none⟩) hg _).setCell (p := ⟨g, 6, none⟩) hg _).setCell (p := ⟨g, 7, none⟩) hg _).setCell (p := ⟨g, 8, none⟩) hg _
theorem blk9 {t : TypeId} {a0 a1 a2 a3 a4 a5 a6 a7 a8 : Value} (h : Blk w g t #[a0, a1, a2, a3, a4, a5, a6, a7, a8]) : Blk (((((((((w.setCell ⟨g, 0, none⟩ v0).setCell ⟨g, 1, none⟩ v1).setCell ⟨g, 2, none⟩ v2).setCell ⟨g, 3, none⟩ v3).setCell ⟨g, 4, none⟩ v4).setCell ⟨g, 5, none⟩ v5).setCell ⟨g, 6, none⟩ v6).setCell ⟨g, 7, none⟩ v7).setCell ⟨g, 8, none⟩ v8) g t #[v0, v1, v2, v3, v4, v5, v6, v7, v8] := by
  have h2 := ((((((((h.set_ 0 v0).set_ 1 v1).set_ 2 v2).set_ 3 v3).set_ 4 v4).set_ 5 v5).set_ 6 v6).set_ 7 v7).set_ 8 v8
  simpa using h2
end
theorem cutN_set {w1 W : World} {x : Tm} {G cap : Nat} {A : Option Addr} (hG : Blk W G 121 #[.int .i64 0, .int .i64 0, .bool false, .int .i64 0, .int .i64 0, .int .i64 0, .int .i64 0, .slice none 0 0, .int .i64 0]) (hb : Below w1.heap.size w1 W) (hge : w1.heap.size ≤ G) (ho : OwnS W w1.heap.size 41 5 A x.l.length cap (x.l.map encCv)) (hne : ∀ b, blk A = some b → b ≠ G) :
    CutN w1 x (.pointer (some ⟨G, 0, none⟩)) (((((((((W.setCell ⟨G, 0, none⟩ (.int .i64 x.f)).setCell ⟨G, 1, none⟩ (.int .i64 0)).setCell ⟨G, 2, none⟩ (.bool true)).setCell ⟨G, 3, none⟩ (.int .i64 x.k)).setCell ⟨G, 4, none⟩ (.int .i64 x.v)).setCell ⟨G, 5, none⟩ (.int .i64 x.a)).setCell ⟨G, 6, none⟩ (.int .i64 x.z)).setCell ⟨G, 7, none⟩ (.slice A x.l.length cap)).setCell ⟨G, 8, none⟩ (.int .i64 0)) :=
  have ho2 := own9 (g := G) ho hne
  ⟨G, A, cap, rfl, blk9 hG, ho2.sv, fun b hb => ⟨hne b hb, (ho2.lt b hb).2, (ho2.lt b hb).1⟩, bel9 hb hge, hge⟩
theorem cutN_new {w1 W : World} {x : Tm} {cap : Nat} {A : Option Addr} (hb : Below w1.heap.size w1 W) (ho : OwnS W w1.heap.size 41 5 A x.l.length cap (x.l.map encCv)) :
    CutN w1 x (.pointer (some ⟨W.heap.size, 0, none⟩)) (W.alloc (.cells (scC ⟨x.f, 0, true, x.k, x.v, x.a, x.z, A, x.l, cap, 0⟩) 121)) :=
  have ho2 := ho.alloc (.cells (scC ⟨x.f, 0, true, x.k, x.v, x.a, x.z, A, x.l, cap, 0⟩) 121)
  ⟨W.heap.size, A, cap, rfl, Blk.new _ _ _, ho2.sv, fun b hb => ⟨by have := (ho.lt b hb).2; omega, (ho2.lt b hb).2, (ho2.lt b hb).1⟩, hb.alloc hb.size _, hb.size⟩
theorem gzB {w1 wb : World} {t1 : TypeId} {cs : Array Value} (hg : ((w1.alloc (.cells cs t1)).alloc (.cells #[.int .i64 0, .int .i64 0, .bool false, .int .i64 0, .int .i64 0, .int .i64 0, .int .i64 0, .slice none 0 0, .int .i64 0] 121)).drew.grownBy wb (blk (some ⟨w1.heap.size, 0, none⟩))) : Blk wb (w1.heap.size + 1) 121 #[.int .i64 0, .int .i64 0, .bool false, .int .i64 0, .int .i64 0, .int .i64 0, .int .i64 0, .slice none 0 0, .int .i64 0] :=
  Blk.grown (Blk.drew (Blk.new' (by simp))) hg (by simp [blk])
theorem gzC {w1 wb : World} {t1 : TypeId} {cs : Array Value} (hg : ((w1.alloc (.cells #[.int .i64 0, .int .i64 0, .bool false, .int .i64 0, .int .i64 0, .int .i64 0, .int .i64 0, .slice none 0 0, .int .i64 0] 121)).alloc (.cells cs t1)).drew.grownBy wb (blk (some ⟨w1.heap.size + 1, 0, none⟩))) : Blk wb w1.heap.size 121 #[.int .i64 0, .int .i64 0, .bool false, .int .i64 0, .int .i64 0, .int .i64 0, .int .i64 0, .slice none 0 0, .int .i64 0] :=
  Blk.grown (Blk.drew ((Blk.new _ _ _).alloc _)) hg (by simp [blk])

/-- The slices of changes in order, wherever they lie. -/
def holdsV (a b : Sp) : Bool := a.on == b.on && (decide (a.rk = b.rk ∧ a.rv = b.rv ∧ a.ra = b.ra ∧ a.rz = b.rz) && alikeB a.l b.l)
theorem holds_v (a b : Sc) : holdsB a b = holdsV a.v b.v := rfl
def endV (d : Int) (now : Sp) (out : List Sp) : List Sp :=
  if now.f = d then out else match out.getLast? with
    | some last => if holdsV last now = true then out.dropLast ++ [{ last with t := d }] else out ++ [{ now with t := d }]
    | none => out ++ [{ now with t := d }]
theorem end_v (d : Int) (now : Sc) (out : List Sc) : (endO d now out).map Sc.v = endV d now.v (out.map Sc.v) := by
  unfold endO endV
  by_cases hf : now.f = d
  · rw [if_pos hf, if_pos (show now.v.f = d from hf)]
  · rw [if_neg hf, if_neg (show ¬now.v.f = d from hf)]
    rcases nil_or_snoc out with rfl | ⟨r, last, rfl⟩
    · rfl
    · simp only [List.getLast?_append, List.getLast?_singleton, List.map_append, List.map_cons, List.map_nil, Option.some_or]
      by_cases hh : holdsB last now = true
      · rw [if_pos hh, if_pos (show holdsV last.v now.v = true from hh)]; simp [Sc.v]
      · rw [if_neg hh, if_neg (show ¬holdsV last.v now.v = true from hh)]; simp [Sc.v]
def stepV (s : Sp × List Sp) (c : Ch) : Sp × List Sp := (doesV { s.1 with f := c.d } c, endV c.d s.1 s.2)
def now0 (x : Tm) : Sp := ⟨x.f, 0, true, x.k, x.v, x.a, x.z, x.l, 0⟩
def stV (x : Tm) (l : List Ch) : Sp × List Sp := l.foldl stepV (now0 x, [])
def cutV (x : Tm) (l : List Ch) : List Sp := endV x.t (stV x l).1 (stV x l).2
theorem stV_take {x : Tm} {l : List Ch} {k : Nat} {c : Ch} (h : l[k]? = some c) : stV x (l.take (k + 1)) = stepV (stV x (l.take k)) c := by rw [take_of h, stV, stV, List.foldl_append]; rfl
theorem endO_len (d : Int) (now : Sc) (out : List Sc) : (endO d now out).length ≤ out.length + 1 := by
  unfold endO
  split
  · omega
  · rcases nil_or_snoc out with rfl | ⟨r, last, rfl⟩
    · simp
    · simp only [List.getLast?_append, List.getLast?_singleton, Option.some_or]
      split <;> simp
/-- What lies behind: the slices that were made. -/
structure Made (w' : World) (B : Nat) (A : Option Addr) (cap : Nat) (out : List Sc) : Prop where
  own : OwnS w' B 121 9 A out.length cap (out.map encSc)
  sv : ∀ x ∈ out, SV w' 5 x.A x.l.length x.cap (x.l.map encCv)
  ap : ∀ x ∈ out, ∀ b, blk x.A = some b → blk A ≠ some b
def CutP (V : List Sp) (w : World) (e : Ending) (w' : World) : Prop :=
  ∃ (A : Option Addr) (cap : Nat) (out : List Sc), e = .returned (.slice A out.length cap) ∧ out.map Sc.v = V ∧ Made w' w.heap.size A cap out ∧ Below w.heap.size w w'

theorem keptB {B : Nat} {W W' : World} {b o : Nat} {u : Value} (hb : Below B W W') (hl : b < B) (h : W.cell? ⟨b, o, none⟩ = some u) : W'.cell? ⟨b, o, none⟩ = some u := (hb.cell (p := ⟨b, o, none⟩) hl).trans h
set_option maxRecDepth 100000 in
set_option maxHeartbeats 4000000 in
theorem cut_any (h : Hi) (O : List Nat) (L : List Ch) (w : World) (hv : HV w h) (hl8 : h.tm.l.length ≤ 8) (hc8 : ∀ c ∈ h.cs, c.k = 2 → c.l.length ≤ 8) (hn2 : O.length ≤ 2000)
    (hO : ∀ (j o : Nat), O[j]? = some o → ∃ c, h.cs[o]? = some c ∧ L[j]? = some c) (hLn : L.length = O.length) (hord : ∀ W, Below w.heap.size w W → Calls Tryz.prog 74 #[.agg #[.int .i64 h.id, .int .i64 h.bk, .int .i64 h.tm.f, .int .i64 h.tm.t, .int .i64 h.tm.k, .int .i64 h.tm.v, .int .i64 h.tm.a, .int .i64 h.tm.z, .slice h.tm.A h.tm.l.length h.tm.cap, .slice h.A h.cs.length h.cap]] W (OrdP O W)) :
    Calls Tryz.prog 39 #[.agg #[.int .i64 h.id, .int .i64 h.bk, .int .i64 h.tm.f, .int .i64 h.tm.t, .int .i64 h.tm.k, .int .i64 h.tm.v, .int .i64 h.tm.a, .int .i64 h.tm.z, .slice h.tm.A h.tm.l.length h.tm.cap, .slice h.A h.cs.length h.cap]] w (CutP (cutV h.tm L) w) := by
  have hmf : ∀ (fn : Fn) (first cap : Array Value) (w : World), (Instr.makeFunc fn first cap).run Tryz.prog w = .ok (.func fn first cap) w := fun _ _ _ _ => rfl
  have HC8 := hide hc8
  have HO := hide hO
  have HLN := hide hLn
  have HORD := hide hord
  clear hc8 hO hLn hord
  have hle := hv.tm.le
  have HV := hide hv
  clear hv
  obtain ⟨w1, hw1⟩ : ∃ W, (w.alloc (.cells (hiC h) 64)).alloc (.cells #[.int .i64 h.tm.f, .int .i64 h.tm.t] 56) = W := ⟨_, rfl⟩
  have hB : Blk w1 w.heap.size 64 (hiC h) := by rw [← hw1]; exact (Blk.new _ _ _).alloc _
  have hS : Blk w1 (w.heap.size + 1) 56 #[.int .i64 h.tm.f, .int .i64 h.tm.t] := by rw [← hw1]; exact Blk.new' (by simp)
  have hb1 : Below w.heap.size w w1 := by rw [← hw1]; exact ((Below.refl _ _).alloc (Nat.le_refl _) _).alloc (by simp) _
  obtain ⟨z0, z1, z2, z3, z4, z5, z6, z7, z8, z9⟩ := hi_cells hB
  have s0 := hS.cell 0
  have s1 := hS.cell 1
  simp at s0 s1
  have lt0 := hS.lt
  have HB := hide hB
  have HS := hide hS
  have H1 := hide hb1
  have HW := hide hw1
  have HTM := hide (HV.out.tm.below hb1)
  clear hB hS hb1 hw1
  go_enter Tryz.func39, Tryz.ntmps39
  go_wp2_with fail
  rw [show (w.alloc (.cells #[.int .i64 h.id, .int .i64 h.bk, .int .i64 h.tm.f, .int .i64 h.tm.t, .int .i64 h.tm.k, .int .i64 h.tm.v, .int .i64 h.tm.a, .int .i64 h.tm.z, .slice h.tm.A h.tm.l.length h.tm.cap, .slice h.A h.cs.length h.cap] 64)).alloc (.cells #[.int .i64 h.tm.f, .int .i64 h.tm.t] 56) = w1 from HW.out]
  go_cut [4] (fun q wx => CutN w1 h.tm q wx)
  case first =>
    go_region_held3 (fun w' => w'.cell? ⟨w.heap.size + 1, 0, none⟩ = some (.int .i64 h.tm.f) ∧ w'.cell? ⟨w.heap.size, 4, none⟩ = some (.int .i64 h.tm.k) ∧ w'.cell? ⟨w.heap.size, 5, none⟩ = some (.int .i64 h.tm.v) ∧ w'.cell? ⟨w.heap.size, 6, none⟩ = some (.int .i64 h.tm.a) ∧ w'.cell? ⟨w.heap.size, 7, none⟩ = some (.int .i64 h.tm.z) ∧ w'.cell? ⟨w.heap.size, 8, none⟩ = some (.slice h.tm.A h.tm.l.length h.tm.cap))
      (first | with_reducible exact ⟨q0, q4, q5, q6, q7, q8⟩ | with_reducible exact ⟨far9 (by omega) q0, far9 (by omega) q4, far9 (by omega) q5, far9 (by omega) q6, far9 (by omega) q7, far9 (by omega) q8⟩ | go_keep)
      ((refine step_app rfl (.tmp 18) (.tmp 21) 59 rfl elCov (B := w1.heap.size) (rows := []) (news := h.tm.l.map encCv) rfl ?_ rfl (by simp) ?_ (okCov h.tm.l) ?_ ?_ ?_ ?_
        · refine own_of_blk ?_ ?_
          · first
              | exact Blk.drew (Blk.new _ _ _)
              | exact Blk.drew ((Blk.new _ _ _).alloc _)
              | exact Blk.drew (Blk.new' (by simp))
          · (simp; try omega)
        · refine Sl.more (Sl.below HTM.out.sl ?_) ?_
          · (repeat (first | exact Below.refl _ _ | refine Below.drew ?_ | (refine Below.alloc ?_ ?_ _; rotate_left; (simp; try omega; done))))
          · (simp; try omega)
        · (simp only [maxLen]; omega)
        · omega
        · (simp; try omega)
        intro A2 c2 wb ho2 hg2 ha2
        have hbb : Below w1.heap.size w1 wb := by
          refine Below.grown ?_ hg2 ?_ ?_
          · (repeat (first | exact Below.refl _ _ | refine Below.drew ?_ | (refine Below.alloc ?_ ?_ _; rotate_left; (simp; try omega; done))))
          · (simp; try omega)
          · intro k hk
            simp [blk] at hk
            omega
        have q0 := kept hbb s0
        have q4 := kept hbb z4
        have q5 := kept hbb z5
        have q6 := kept hbb z6
        have q7 := kept hbb z7
        have q8 := kept hbb z8
        have HO2 := hide ho2
        have HA2 := hide ha2
        have HBB := hide hbb
        first
          | (have gz := gzB hg2
             have y0 : wb.cell? ⟨w1.heap.size + 1, 0, none⟩ = some (.int .i64 0) := gz.cell 0
             have v0 := gz.frozen 0
             have y1 : wb.cell? ⟨w1.heap.size + 1, 1, none⟩ = some (.int .i64 0) := gz.cell 1
             have v1 := gz.frozen 1
             have y2 : wb.cell? ⟨w1.heap.size + 1, 2, none⟩ = some (.bool false) := gz.cell 2
             have v2 := gz.frozen 2
             have y3 : wb.cell? ⟨w1.heap.size + 1, 3, none⟩ = some (.int .i64 0) := gz.cell 3
             have v3 := gz.frozen 3
             have y4 : wb.cell? ⟨w1.heap.size + 1, 4, none⟩ = some (.int .i64 0) := gz.cell 4
             have v4 := gz.frozen 4
             have y5 : wb.cell? ⟨w1.heap.size + 1, 5, none⟩ = some (.int .i64 0) := gz.cell 5
             have v5 := gz.frozen 5
             have y6 : wb.cell? ⟨w1.heap.size + 1, 6, none⟩ = some (.int .i64 0) := gz.cell 6
             have v6 := gz.frozen 6
             have y7 : wb.cell? ⟨w1.heap.size + 1, 7, none⟩ = some (.slice none 0 0) := gz.cell 7
             have v7 := gz.frozen 7
             have y8 : wb.cell? ⟨w1.heap.size + 1, 8, none⟩ = some (.int .i64 0) := gz.cell 8
             have v8 := gz.frozen 8
             have GZ := hide gz
             clear gz)
          | (have gz := gzC hg2
             have y0 : wb.cell? ⟨w1.heap.size, 0, none⟩ = some (.int .i64 0) := gz.cell 0
             have v0 := gz.frozen 0
             have y1 : wb.cell? ⟨w1.heap.size, 1, none⟩ = some (.int .i64 0) := gz.cell 1
             have v1 := gz.frozen 1
             have y2 : wb.cell? ⟨w1.heap.size, 2, none⟩ = some (.bool false) := gz.cell 2
             have v2 := gz.frozen 2
             have y3 : wb.cell? ⟨w1.heap.size, 3, none⟩ = some (.int .i64 0) := gz.cell 3
             have v3 := gz.frozen 3
             have y4 : wb.cell? ⟨w1.heap.size, 4, none⟩ = some (.int .i64 0) := gz.cell 4
             have v4 := gz.frozen 4
             have y5 : wb.cell? ⟨w1.heap.size, 5, none⟩ = some (.int .i64 0) := gz.cell 5
             have v5 := gz.frozen 5
             have y6 : wb.cell? ⟨w1.heap.size, 6, none⟩ = some (.int .i64 0) := gz.cell 6
             have v6 := gz.frozen 6
             have y7 : wb.cell? ⟨w1.heap.size, 7, none⟩ = some (.slice none 0 0) := gz.cell 7
             have v7 := gz.frozen 7
             have y8 : wb.cell? ⟨w1.heap.size, 8, none⟩ = some (.int .i64 0) := gz.cell 8
             have v8 := gz.frozen 8
             have GZ := hide gz
             clear gz)
          | skip
        clear ho2 ha2 hbb hg2))
    · go_wp2_with fail
      go_meet
      exact cutN_new HBB.out (by simpa using HO2.out)
    · go_wp2_with fail
      go_meet
      exact cutN_set GZ.out HBB.out (by omega) (by simpa using HO2.out) (fun b hb => by
        rcases HA2.out with hh | hh <;> (rw [hh] at hb; simp [blk] at hb; omega))
    · go_wp2_with fail
      go_meet
      exact cutN_set GZ.out HBB.out (by omega) (by simpa using HO2.out) (fun b hb => by
        rcases HA2.out with hh | hh <;> (rw [hh] at hb; simp [blk] at hb; omega))
  case rest =>
    obtain ⟨G, A0, cap0, rfl, hG, hsv, hap, hbe, hge⟩ := hcut
    have hGl := hG.lt
    obtain ⟨now, hnow⟩ : ∃ x : Sc, x = ⟨h.tm.f, 0, true, h.tm.k, h.tm.v, h.tm.a, h.tm.z, A0, h.tm.l, cap0, 0⟩ := ⟨_, rfl⟩
    obtain ⟨w2, hw2⟩ : ∃ W, wc.alloc (.cells #[.slice none 0 0] 71) = W := ⟨_, rfl⟩
    have hb2 : Below wc.heap.size wc w2 := by rw [← hw2]; exact (Below.refl _ _).alloc (Nat.le_refl _) _
    have hbo : Blk w2 wc.heap.size 71 #[.slice none 0 0] := by rw [← hw2]; exact Blk.new _ _ _
    have HBn := hide (show Blk w2 G 121 (scC now) by rw [hnow]; exact hG.below hb2 hGl)
    have HSV := hide (hsv.below hb2)
    have HAP := hide hap
    have HBE := hide (chain hbe hb2)
    have HBO := hide hbo
    have hz2 := hbo.lt
    have HNW := hide hnow
    have HNV := hide (show now.v = now0 h.tm by rw [hnow]; rfl)
    have HW2 := hide hw2
    have hHe := HBE.out
    have y0 := kept hHe z0
    have y1 := kept hHe z1
    have y2 := kept hHe z2
    have y3 := kept hHe z3
    have y4 := kept hHe z4
    have y5 := kept hHe z5
    have y6 := kept hHe z6
    have y7 := kept hHe z7
    have y8 := kept hHe z8
    have y9 := kept hHe z9
    have HE2 := hide (chain H1.out hHe)
    have hgl2 := hide (⟨hge, hGl, hz2⟩ : w1.heap.size ≤ G ∧ G < wc.heap.size ∧ wc.heap.size < w2.heap.size)
    clear hnow hw2 hb2 hbo hG hsv hap hbe hHe hGl hge hz2
    go_upto_region 5 with fail
    rw [show wc.alloc (.cells #[.slice none 0 0] 71) = w2 from HW2.out]
    obtain ⟨H, hH⟩ : ∃ H, wc.heap.size = H := ⟨_, rfl⟩
    rw [hH] at hgl2 HBO HAP ⊢
    clear hH HW2
    obtain ⟨n, hn⟩ : ∃ n, O.length = n := ⟨_, rfl⟩
    have HN := hide hn
    have HORD2 := hide (HORD.out _ HE2.out)
    clear HORD
    go_wp2_with fail
    refine HORD2.out.mono ?_
    rintro e w3 ⟨A3, cap3, rfl, hs3, ha3, hb3⟩
    rw [hn] at hs3 hn2 ⊢
    clear hn
    have hgl := hgl2.out
    have hz3 := hb3.size
    have hcr : CR w1 w3 G H [now] [] none 0 w3 := by
      refine ⟨HBO.out.below hb3 (by omega), OwnS.nil_ _ _ _ _, fun x hx => ?_, fun x hx b hb => ?_, chain HBE.out hb3, hgl.1, by omega, hgl.2.1, fun x hx b hb => ?_, by omega, Nat.le_refl _, fun _ _ _ _ => rfl⟩
      · rw [List.mem_singleton] at hx
        rw [hx, HNW.out]; exact HSV.out.below hb3
      · rw [List.mem_singleton] at hx
        rw [hx, HNW.out] at hb
        have := HAP.out b hb
        exact ⟨this.1, by omega, by simp [blk]⟩
      · rw [List.mem_singleton] at hx
        rw [hx, HNW.out] at hb
        have := HAP.out b hb
        omega
    have hbn3 := HBn.out.below hb3 (by omega)
    have hle3 := hs3.le
    have hmo3 := hs3.most
    unfold maxLen at hmo3
    have HS3 := hide hs3
    have HA3 := hide (show ∀ b, blk A3 = some b → b ≠ G ∧ b ≠ H ∧ b < w3.heap.size from fun b hb => by have := ha3 b hb; exact ⟨by omega, by omega, by omega⟩)
    have HCR3 := hide hcr
    have HBN3 := hide hbn3
    have HB3 := hide (HB.out.below (chain HBE.out hb3) (by omega))
    have HSp3 := hide (HS.out.below (chain HBE.out hb3) (by omega))
    have HV3 := hide (HV.out.below (chain HE2.out hb3))
    have hlt3 : w.heap.size + 1 < G := by omega
    clear ha3 hs3 hb3 hcr hbn3 hgl HBn HBO HSV HAP HBE HNW HORD2 hz3
    go_wp2_with fail
    go_loopw [28] (fun q wr => ∃ (j : Nat) (nw : Sc) (out : List Sc) (A : Option Addr) (cap : Nat), j ≤ n ∧ q = .int .i64 j ∧ Blk wr G 121 (scC nw) ∧ CR w1 w3 G H (nw :: out) out A cap wr ∧ stV h.tm (L.take j) = (nw.v, out.map Sc.v) ∧ out.length ≤ j) (fun q _ => n - (RowKit.intOf q).toNat)
    case atStart => exact ⟨0, now, [], none, 0, Nat.zero_le _, rfl, HBN3.out, HCR3.out, by rw [HNV.out]; rfl, Nat.zero_le _⟩
    case round =>
      obtain ⟨j, nw, out, A, cap, hj, rfl, hbn, hcr, hst, hol⟩ := hrel
      have HBN := hide hbn
      have HCR := hide hcr
      have HST := hide hst
      have hlt2 := hcr.lt
      have hgh := hcr.gh
      clear hbn hcr hst
      have HBW := hide (chain H1.out HCR.out.be)
      have hH3 := HCR.out.hb
      have hBwr : Blk wr w.heap.size 64 (hiC h) := (HCR.out.fr _ (by omega) (by omega) (by omega)).trans HB3.out
      obtain ⟨x0, x1, x2, x3, x4, x5, x6, x7, x8, x9⟩ := hi_cells hBwr
      have HVR := hide (HV.out.below HBW.out)
      have HB0 := hide hBwr
      clear hBwr
      by_cases hlt : j < n
      · obtain ⟨o, ho⟩ := get_of (l := O) (k := j) (by rw [HN.out]; exact hlt)
        obtain ⟨c, hc, hlc⟩ := HO.out j o ho
        have hsw := HS3.out.only (w' := wr) (fun b hb => HCR.out.fr b (HA3.out b hb).2.2 (HA3.out b hb).1 (HA3.out b hb).2.1) HCR.out.sz
        obtain ⟨bo, oo, hAo, -, hco⟩ := hsw.sl j (encN o) (by simp [ho])
        have oc := hco 0 _ rfl
        rw [Nat.mul_one, Nat.add_zero] at oc
        obtain ⟨bc, co, hAc, hbc, a0, a1, a2, a3, a4, a5, a6, a7, a8⟩ := HV.out.cs.sl.ch hc
        have c1 := keptB HBW.out hbc a1
        have HA := hide (And.intro a0 (And.intro a1 (And.intro a2 (And.intro a3 (And.intro a4 (And.intro a5 (And.intro a6 (And.intro a7 a8))))))))
        clear a0 a1 a2 a3 a4 a5 a6 a7 a8
        have hol' := lt_of_get hc
        rw [hAc] at x9
        subst hAo
        have hk0 : (0 : Int) ≤ (j : Int) := by omega
        have hk1 : (j : Int) < (n : Int) := by omega
        have hk2 : (0 : Int) ≤ (o : Int) := by omega
        have hk3 : (o : Int) < (h.cs.length : Int) := by omega
        have hcle := HV.out.cs.le
        have hmem := List.mem_of_getElem? hc
        have HT := hide (stV_take (x := h.tm) hlc)
        have HCC := hide (HVR.out.cv c hmem)
        have HC2 := hide (HC8.out c hmem)
        have HEND := hide (end_any w1 w3 G H nw out A cap c.d wr HBN.out HCR.out (by omega))
        have HCG := hide hc
        have HAC := hide hAc
        clear ho hlc hc hsw hco hmem hAc
        go_wp2_with fail
        refine HEND.out.mono ?_
        rintro e w4 ⟨rfl, A4, cap4, hb4, hr4⟩
        have HBW4 := hide (chain H1.out hr4.be)
        have hB4 : Blk w4 w.heap.size 64 (hiC h) := (hr4.fr _ (by omega) (by omega) (by omega)).trans HB3.out
        have y9 := (hi_cells hB4).2.2.2.2.2.2.2.2.2
        rw [HAC.out] at y9
        obtain ⟨a0, a1, a2, a3, a4, a5, a6, a7, a8⟩ := HA.out
        have d0 := keptB HBW4.out hbc a0
        have d1 := keptB HBW4.out hbc a1
        have d2 := keptB HBW4.out hbc a2
        have d3 := keptB HBW4.out hbc a3
        have d4 := keptB HBW4.out hbc a4
        have d5 := keptB HBW4.out hbc a5
        have d6 := keptB HBW4.out hbc a6
        have d7 := keptB HBW4.out hbc a7
        have d8 := keptB HBW4.out hbc a8
        have HDO := hide (does_any w1 w3 G H _ (endO c.d nw out) A4 cap4 c w4 hb4 hr4 ((HV.out.cv c (List.mem_of_getElem? HCG.out)).below HBW4.out) HC2.out)
        have HEL := hide (endO_len c.d nw out)
        clear a0 a1 a2 a3 a4 a5 a6 a7 a8 c1 hB4 hb4 hr4 x0 x1 x2 x3 x4 x5 x6 x7 x8 x9
        go_wp2_with fail
        refine HDO.out.mono ?_
        rintro e w5 ⟨rfl, x', hx', hb5, hr5⟩
        have HX' := hide hx'
        have HB5 := hide hb5
        have HR5 := hide hr5
        clear hx' hb5 hr5
        go_wp2_with fail
        go_roundw
        case rel => exact ⟨j + 1, x', endO c.d nw out, A4, cap4, by omega, by go_num, HB5.out, HR5.out, by rw [HT.out, HST.out, stepV, HX'.out, end_v]; rfl, by have := HEL.out; omega⟩
        case measure => simp [RowKit.intOf]; omega
      · obtain rfl : j = n := by omega
        have hlj : L.take j = L := List.take_of_length_le (by rw [HLN.out, HN.out]; exact Nat.le_refl _)
        have hst := HST.out
        rw [hlj] at hst
        have hSp : Blk wr (w.heap.size + 1) 56 #[.int .i64 h.tm.f, .int .i64 h.tm.t] := (HCR.out.fr _ (by omega) (by omega) (by omega)).trans HSp3.out
        have s1 := hSp.cell 1
        simp at s1
        have HEND := hide (end_any w1 w3 G H nw out A cap h.tm.t wr HBN.out HCR.out (by omega))
        have HCV := hide (show cutV h.tm L = (endO h.tm.t nw out).map Sc.v by rw [cutV, hst, end_v])
        clear hlj hst hSp x0 x1 x2 x3 x4 x5 x6 x7 x8 x9
        go_wp2_with fail
        refine HEND.out.mono ?_
        rintro e w4 ⟨rfl, A4, cap4, hb4, hr4⟩
        have q0 := hr4.bo.cell 0
        simp at q0
        have HR4 := hide hr4
        clear hb4 hr4
        go_wp2_with fail
        go_ret
        exact ⟨A4, cap4, _, rfl, HCV.out.symm, ⟨HR4.out.own.mono (by have := HCR.out.be.size; have := H1.out.size; omega), fun x hx => HR4.out.sv x (by simp [hx]), fun x hx b hb => (HR4.out.ap x (by simp [hx]) b hb).2.2⟩, chain H1.out HR4.out.be⟩
end Go.Proofs.YtmfohnchnbgbaaaGreatDoor

/- A version of its own. -/
namespace Go.Proofs.YtmfohnchnbgbaaaGreatDoor
open Go.RowKit

def zeroV : Array Value := #[.int .i64 0, .int .i64 0, .int .i64 0, .int .i64 0, .int .i64 0, .slice none 0 0, .slice none 0 0, .slice none 0 0, .int .i64 0]
/-- The blocks of a version are new. -/
def FreshV (B : Nat) (x : Vw) : Prop := ∀ kk, (blk x.aA = some kk ∨ blk x.zA = some kk ∨ blk x.pA = some kk) → B ≤ kk
def OwnP (w : World) (v : Ver) (e : Ending) (w' : World) : Prop :=
  ∃ x : Vw, e = .returned (.agg #[.int .i64 x.f, .int .i64 x.b0, .int .i64 x.b1, .int .i64 x.b2, .int .i64 x.b3, .slice x.aA x.age.length x.aC, .slice x.zA x.zone.length x.zC, .slice x.pA x.peril.length x.pC, .int .i64 x.mn]) ∧ x.v = v ∧ VOK w' x ∧ FreshV w.heap.size x ∧ Below w.heap.size w w'
section
variable {w0 w : World} {A : Option Addr} {n cap : Nat}
def CopyB (w0 w : World) (sz n : Nat) (rows : List (List Value)) (en : Ending) (w' : World) : Prop :=
  ∃ A' c', en = .returned (.slice A' n c') ∧ SV w' sz A' n c' rows ∧ (∀ kk, blk A' = some kk → w0.heap.size ≤ kk) ∧ Below w0.heap.size w0 w' ∧ Below w.heap.size w w'
theorem cloneI_b {l : List Int} (hs : SV w0 1 A n cap (l.map encI)) (hb : Below w0.heap.size w0 w) (hm : n ≤ 1000000) : Calls Tryz.prog 123 #[.slice A n cap] w (CopyB w0 w 1 n (l.map encI)) :=
  (cloneI_any A n cap l w (hs.below hb) hm).mono fun _ _ ⟨A', c', he, ho, h⟩ => ⟨A', c', he, ho.sv, fun kk hk => Nat.le_trans hb.size (ho.lt kk hk).1, chain hb h, h⟩
theorem cloneB_b {l : List Bd} (hs : SV w0 2 A n cap (l.map encBd)) (hb : Below w0.heap.size w0 w) (hm : n ≤ 1000000) : Calls Tryz.prog 122 #[.slice A n cap] w (CopyB w0 w 2 n (l.map encBd)) :=
  (cloneB_any A n cap l w (hs.below hb) hm).mono fun _ _ ⟨A', c', he, ho, h⟩ => ⟨A', c', he, ho.sv, fun kk hk => Nat.le_trans hb.size (ho.lt kk hk).1, chain hb h, h⟩
end
theorem blk_cells {w : World} {g : Nat} {x : Vw} (h : Blk w g 114 (boxV x)) : w.cell? ⟨g, 0, none⟩ = some (.int .i64 x.f) ∧ w.cell? ⟨g, 1, none⟩ = some (.int .i64 x.b0) ∧ w.cell? ⟨g, 2, none⟩ = some (.int .i64 x.b1) ∧ w.cell? ⟨g, 3, none⟩ = some (.int .i64 x.b2) ∧ w.cell? ⟨g, 4, none⟩ = some (.int .i64 x.b3) ∧
    w.cell? ⟨g, 5, none⟩ = some (.slice x.aA x.age.length x.aC) ∧ w.cell? ⟨g, 6, none⟩ = some (.slice x.zA x.zone.length x.zC) ∧ w.cell? ⟨g, 7, none⟩ = some (.slice x.pA x.peril.length x.pC) ∧ w.cell? ⟨g, 8, none⟩ = some (.int .i64 x.mn) :=
  ⟨h.cell 0, h.cell 1, h.cell 2, h.cell 3, h.cell 4, h.cell 5, h.cell 6, h.cell 7, h.cell 8⟩
theorem blk_frozen {w : World} {g : Nat} {cs : Array Value} (h : Blk w g 114 cs) : w.frozen? ⟨g, 0, none⟩ = false ∧ w.frozen? ⟨g, 1, none⟩ = false ∧ w.frozen? ⟨g, 2, none⟩ = false ∧ w.frozen? ⟨g, 3, none⟩ = false ∧ w.frozen? ⟨g, 4, none⟩ = false ∧ w.frozen? ⟨g, 5, none⟩ = false ∧ w.frozen? ⟨g, 6, none⟩ = false ∧ w.frozen? ⟨g, 7, none⟩ = false ∧ w.frozen? ⟨g, 8, none⟩ = false :=
  ⟨h.frozen 0, h.frozen 1, h.frozen 2, h.frozen 3, h.frozen 4, h.frozen 5, h.frozen 6, h.frozen 7, h.frozen 8⟩

set_option maxRecDepth 100000 in
set_option maxHeartbeats 8000000 in
theorem own_any (x : Vw) (w : World) (hs : VOK w x) (hm : x.age.length ≤ 1000000 ∧ x.zone.length ≤ 1000000 ∧ x.peril.length ≤ 1000000) :
    Calls Tryz.prog 71 #[.agg #[.int .i64 x.f, .int .i64 x.b0, .int .i64 x.b1, .int .i64 x.b2, .int .i64 x.b3, .slice x.aA x.age.length x.aC, .slice x.zA x.zone.length x.zC, .slice x.pA x.peril.length x.pC, .int .i64 x.mn]] w (OwnP w x.v) := by
  obtain ⟨m1, m2, m3⟩ := hm
  have HS := hide hs
  clear hs
  go_enter Tryz.func71, Tryz.ntmps71
  go_wp2_with fail
  obtain ⟨w1, hw1⟩ : ∃ W, (w.alloc (.cells #[.int .i64 x.f, .int .i64 x.b0, .int .i64 x.b1, .int .i64 x.b2, .int .i64 x.b3, .slice x.aA x.age.length x.aC, .slice x.zA x.zone.length x.zC, .slice x.pA x.peril.length x.pC, .int .i64 x.mn] 114)).alloc (.cells #[.int .i64 0, .int .i64 0, .int .i64 0, .int .i64 0, .int .i64 0, .slice none 0 0, .slice none 0 0, .slice none 0 0, .int .i64 0] 114) = W := ⟨_, rfl⟩
  have hX : Blk w1 w.heap.size 114 (boxV x) := by rw [← hw1]; exact (Blk.new _ _ _).alloc _
  have hZ : Blk w1 (w.heap.size + 1) 114 zeroV := by rw [← hw1]; exact Blk.new' (by simp)
  have h1 : Below w.heap.size w w1 := by rw [← hw1]; exact ((Below.refl _ _).alloc (Nat.le_refl _) _).alloc (by simp) _
  rw [hw1]
  clear hw1
  have HS1 := hide (HS.out.below h1)
  have c5 := hX.cell 5
  have c6 := hX.cell 6
  have c7 := hX.cell 7
  have f5 := hX.frozen 5
  have f6 := hX.frozen 6
  have f7 := hX.frozen 7
  simp [boxV] at c5 c6 c7
  have HX := hide hX
  have HZ := hide hZ
  have H1 := hide h1
  have hcur : Below w1.heap.size w1 w1 := Below.refl _ _
  clear hX hZ h1
  go_region_law (first
    | (go_simp
       go_at_call 122
       with_reducible refine (cloneB_b (l := x.age) (w0 := w1) ?_ ?_ m1).mono ?_
       · exact HS1.out.age
       · first | with_reducible exact hcur | exact hcur.drew
       rintro e w2 ⟨A1, c1, rfl, hs1, hf1, hcur, hbb⟩
       have hX := HX.out.below hcur HX.out.lt
       have c5 := hX.cell 5
       have c6 := hX.cell 6
       have c7 := hX.cell 7
       have f5 := hX.frozen 5
       have f6 := hX.frozen 6
       have f7 := hX.frozen 7
       simp [boxV] at c5 c6 c7
       first
         | have hb1 : Below w1.heap.size w1 w2 := hbb
         | have hb1 : Below w1.heap.size w1 w2 := bel_undrew hbb
       dsimp only)
    | (go_simp
       go_at_call 123
       with_reducible refine (cloneI_b (A := x.zA) (l := x.zone) (w0 := w1) ?_ ?_ m2).mono ?_
       · exact HS1.out.zone
       · first | with_reducible exact hcur | exact hcur.drew
       rintro e w3 ⟨A2, c2, rfl, hs2, hf2, hcur, hbb⟩
       have hX := HX.out.below hcur HX.out.lt
       have c5 := hX.cell 5
       have c6 := hX.cell 6
       have c7 := hX.cell 7
       have f5 := hX.frozen 5
       have f6 := hX.frozen 6
       have f7 := hX.frozen 7
       simp [boxV] at c5 c6 c7
       first
         | have hb2 : Below w2.heap.size w2 w3 := hbb
         | have hb2 : Below w2.heap.size w2 w3 := bel_undrew hbb
       dsimp only)
    | (go_simp
       go_at_call 123
       with_reducible refine (cloneI_b (A := x.pA) (l := x.peril) (w0 := w1) ?_ ?_ m3).mono ?_
       · exact HS1.out.peril
       · first | with_reducible exact hcur | exact hcur.drew
       rintro e w4 ⟨A3, c3, rfl, hs3, hf3, hcur, hbb⟩
       have hX := HX.out.below hcur HX.out.lt
       have c5 := hX.cell 5
       have c6 := hX.cell 6
       have c7 := hX.cell 7
       have f5 := hX.frozen 5
       have f6 := hX.frozen 6
       have f7 := hX.frozen 7
       simp [boxV] at c5 c6 c7
       first
         | have hb3 : Below w3.heap.size w3 w4 := hbb
         | have hb3 : Below w3.heap.size w3 w4 := bel_undrew hbb
       dsimp only))
  all_goals
    obtain ⟨y, hy⟩ : ∃ y : Vw, y = ⟨x.f, x.b0, x.b1, x.b2, x.b3, A1, x.age, c1, A2, x.zone, c2, A3, x.peril, c3, x.mn⟩ := ⟨_, rfl⟩
    obtain ⟨W, hW⟩ : ∃ W, (((w4.setCell ⟨w.heap.size, 5, none⟩ (.slice A1 x.age.length c1)).setCell ⟨w.heap.size, 6, none⟩ (.slice A2 x.zone.length c2)).setCell ⟨w.heap.size, 7, none⟩ (.slice A3 x.peril.length c3)) = W := ⟨_, rfl⟩
    have hx1 := HX.out.lt
    have hz1 := HZ.out.lt
    have hoth : ∀ b, b ≠ w.heap.size → W.heap[b]? = w4.heap[b]? := fun b hb => by
      rw [← hW, heap_setCell_other _ _ _ _ (show b ≠ (⟨w.heap.size, 7, none⟩ : Addr).block from hb), heap_setCell_other _ _ _ _ (show b ≠ (⟨w.heap.size, 6, none⟩ : Addr).block from hb), heap_setCell_other _ _ _ _ (show b ≠ (⟨w.heap.size, 5, none⟩ : Addr).block from hb)]
    have hWs : W.heap.size = w4.heap.size := by rw [← hW]; simp
    have hXW : Blk W w.heap.size 114 (boxV y) := by
      rw [← hW, hy]
      have := (((HX.out.below hcur HX.out.lt).set_ 5 (.slice A1 x.age.length c1)).set_ 6 (.slice A2 x.zone.length c2)).set_ 7 (.slice A3 x.peril.length c3)
      simpa [boxV] using this
    have hZW : Blk W (w.heap.size + 1) 114 zeroV := (hoth _ (by omega)).trans (HZ.out.below hcur HZ.out.lt)
    have hvok : VOK w4 y := by
      rw [hy]
      exact ⟨(hs1.below hb2).below hb3, hs2.below hb3, hs3⟩
    have hfr : ∀ kk, (blk y.aA = some kk ∨ blk y.zA = some kk ∨ blk y.pA = some kk) → w1.heap.size ≤ kk := by
      rw [hy]
      rintro kk (h | h | h)
      · exact hf1 kk h
      · exact hf2 kk h
      · exact hf3 kk h
    have hbW : Below w.heap.size w W := by
      rw [← hW]
      exact (((chain H1.out hcur).setCell (p := ⟨w.heap.size, 5, none⟩) (Nat.le_refl _) _).setCell (p := ⟨w.heap.size, 6, none⟩) (Nat.le_refl _) _).setCell (p := ⟨w.heap.size, 7, none⟩) (Nat.le_refl _) _
    have hvW : VOK W y := hvok.only (fun b hb => hoth b (by have := hfr b hb; omega)) (by omega)
    have hyv : y.v = x.v := by rw [hy]; rfl
    rw [hW]
    obtain ⟨d0, d1, d2, d3, d4, d5, d6, d7, d8⟩ := blk_cells hXW
    obtain ⟨z0, z1, z2, z3, z4, z5, z6, z7, z8⟩ := blk_frozen hZW
    have e0 := hZW.cell 0
    have e1 := hZW.cell 1
    have e2 := hZW.cell 2
    have e3 := hZW.cell 3
    have e4 := hZW.cell 4
    have e5 := hZW.cell 5
    have e6 := hZW.cell 6
    have e7 := hZW.cell 7
    have e8 := hZW.cell 8
    simp [zeroV] at e0 e1 e2 e3 e4 e5 e6 e7 e8
    have HXW := hide hXW
    have HZW := hide hZW
    have HVW := hide hvW
    have HFR := hide hfr
    have HBW := hide hbW
    have HYV := hide hyv
    clear hy hW hoth hXW hZW hvok hfr hbW hvW hyv hs1 hs2 hs3 hf1 hf2 hf3 hcur hbb hb1 hb2 hb3 c5 c6 c7 f5 f6 f7
    go_wp2_with fail
    refine ret_row rfl rfl rfl (g := w.heap.size + 1) (cs := boxV y) (t := 114) (setV_blk y HZW.out) Tryz.underlying114 rfl (by kernel_rfl) ?_
    exact ⟨y, rfl, HYV.out, HVW.out.only (fun b hb => setV_other _ _ _ (by have := HFR.out b hb; omega)) (by simp), fun kk hk => by have := HFR.out kk hk; omega, setV_below y HBW.out (by omega)⟩
end Go.Proofs.YtmfohnchnbgbaaaGreatDoor

/- Versions that are the same; the plain one; few versions; the document's At. -/
namespace Go.Proofs.YtmfohnchnbgbaaaGreatDoor
open Go.RowKit

theorem eq_base (a b c d : Int) (w : World) : (Op.equalIn 10000 111 (.agg #[.int .i64 a, .int .i64 b, .int .i64 c, .int .i64 d]) (.agg #[.int .i64 a, .int .i64 b, .int .i64 c, .int .i64 d])).run Tryz.prog w = .ok true w := by
  have u3 := Tryz.underlying3
  have a3 := Tryz.isAgg3
  have z3 := Tryz.sizeOf3
  rw [show (10000 : Nat) = 9999 + 1 from rfl, Op.equalIn]
  simp only [Sem.run_bind, run_underlying Tryz.underlying111, Result.andThen_ok]
  simp only [Std.Legacy.Range.forIn_eq_forIn_range', Std.Legacy.Range.size, Nat.sub_zero, Nat.add_sub_cancel, Nat.div_one, List.range'_succ, List.range'_zero, List.forIn_cons, List.forIn_nil]
  go_simp
/-! ### The plain version -/
def plainV (f : Int) : Ver := ⟨f, 10, 20, 30, 40, [(30, 12000)], [10000], [1, 2, 3, 4, 5, 6, 7, 8], 100⟩
theorem lit_bands (w : World) (l : List Bd) (hm : l.length ≤ 1000) (cs : Array Value) (hcs : cs.toList = (l.map encBd).flatten) : SV (w.alloc (.cells cs 228)) 2 (some ⟨w.heap.size, 0, none⟩) l.length l.length (l.map encBd) := by
  have h := (OwnS.lit w (B := 0) (Nat.zero_le _) 228 (l.map encBd) (okBd l) (by simp [maxLen]; omega) cs hcs).sv
  rwa [List.length_map] at h
end Go.Proofs.YtmfohnchnbgbaaaGreatDoor

/- The version of a day: the document's; few versions. -/
namespace Go.Proofs.YtmfohnchnbgbaaaGreatDoor
open Go.RowKit

/-- The version of a day. -/
def atL (l : List Ver) (d : Int) : Option Ver := (l.filter fun v => decide (v.f ≤ d)).getLast?
def AtP (w : World) (r : Option Ver) (e : Ending) (w' : World) : Prop :=
  Below w.heap.size w w' ∧ ((r = none ∧ e = .returned (.tuple #[.agg #[.int .i64 0, .int .i64 0, .int .i64 0, .int .i64 0, .int .i64 0, .slice none 0 0, .slice none 0 0, .slice none 0 0, .int .i64 0], .int .i64 7])) ∨ ∃ v, r = some v ∧ ∃ x : Vw, e = .returned (.tuple #[.agg #[.int .i64 x.f, .int .i64 x.b0, .int .i64 x.b1, .int .i64 x.b2, .int .i64 x.b3, .slice x.aA x.age.length x.aC, .slice x.zA x.zone.length x.zC, .slice x.pA x.peril.length x.pC, .int .i64 x.mn], .int .i64 0]) ∧ x.v = v ∧ VOK w' x)
def zeroW : Vw := ⟨0, 0, 0, 0, 0, none, [], 0, none, [], 0, none, [], 0, 0⟩
theorem atL_hit {l : List Ver} {k : Nat} {x : Ver} {d : Int} (hx : l[k]? = some x) (hd : x.f ≤ d) (hr : ∀ (j : Nat) (y : Ver), k < j → l[j]? = some y → d < y.f) : atL l d = some x := by
  have e : l = l.take k ++ (x :: l.drop (k + 1)) := by rw [← drop_of hx, List.take_append_drop]
  rw [atL, e, List.filter_append, List.filter_cons_of_pos (by simpa using hd)]
  have h0 : (l.drop (k + 1)).filter (fun v => decide (v.f ≤ d)) = [] := by
    rw [List.filter_eq_nil_iff]
    intro y hy
    obtain ⟨j, hj⟩ := List.mem_iff_getElem?.1 hy
    rw [List.getElem?_drop] at hj
    have := hr (k + 1 + j) y (by omega) hj
    simp; omega
  rw [h0]; simp
theorem atL_none {l : List Ver} {d : Int} (hr : ∀ (j : Nat) (y : Ver), l[j]? = some y → d < y.f) : atL l d = none := by
  rw [atL, List.getLast?_eq_none_iff, List.filter_eq_nil_iff]
  intro y hy
  obtain ⟨j, hj⟩ := List.mem_iff_getElem?.1 hy
  have := hr j y hj
  simp; omega

end Go.Proofs.YtmfohnchnbgbaaaGreatDoor

/- The version of a day: the program's: the iterator that goes backward. -/
namespace Go.Proofs.YtmfohnchnbgbaaaGreatDoor
open Go.RowKit Go.Shelf
attribute [local go_sem] Oper.semAt_some

def LenV (x : Vw) : Prop := x.age.length ≤ 1000000 ∧ x.zone.length ≤ 1000000 ∧ x.peril.length ≤ 1000000
/-- What comes, round by round: a place and a version. -/
abbrev It (w0 : World) := { p : Int × Vw // VOK w0 p.2 ∧ LenV p.2 }
def encIt (w0 : World) (p : It w0) : Array Value := #[.int .i64 p.1.1, .agg #[.int .i64 p.1.2.f, .int .i64 p.1.2.b0, .int .i64 p.1.2.b1, .int .i64 p.1.2.b2, .int .i64 p.1.2.b3, .slice p.1.2.aA p.1.2.age.length p.1.2.aC, .slice p.1.2.zA p.1.2.zone.length p.1.2.zC, .slice p.1.2.pA p.1.2.peril.length p.1.2.pC, .int .i64 p.1.2.mn]]
/-- The versions, the last one first. -/
def Backs (w0 : World) (M : List Vw) (zs : List (It w0)) : Prop := zs.length = M.length ∧ ∀ (j : Nat) (z : It w0), zs[j]? = some z → z.1.1 = ((M.length - 1 - j : Nat) : Int) ∧ M[M.length - 1 - j]? = some z.1.2
theorem backs_of {w0 : World} {M : List Vw} (h : ∀ x ∈ M, VOK w0 x ∧ LenV x) : ∃ zs : List (It w0), Backs w0 M zs := by
  obtain ⟨zs, h1, h2⟩ := list_of (α := It w0) (n := M.length) (p := fun j z => z.1.1 = ((M.length - 1 - j : Nat) : Int) ∧ M[M.length - 1 - j]? = some z.1.2) (fun j hj => by
    obtain ⟨x, hx⟩ := get_of (l := M) (k := M.length - 1 - j) (by omega)
    exact ⟨⟨(((M.length - 1 - j : Nat) : Int), x), h x (List.mem_of_getElem? hx)⟩, rfl, hx⟩)
  exact ⟨zs, h1, h2⟩

set_option maxRecDepth 100000 in
set_option maxHeartbeats 4000000 in
theorem back1_in (F : Fence) (n : Nat) (h37 : F.fn 121) (hro : F.round = none) (hn : 1 ≤ n) (w0 : World) (l Bs n0 cap : Nat) (A : Option Addr) (M : List Vw) (zs : List (It w0)) (hz : Backs w0 M zs) (J Jx : List (It w0) → World → Prop)
    (hTV : TV w0 A M.length cap M) (hn0 : w0.heap.size ≤ n0) (hBs0 : Bs < n0)
    (hY : ∀ pre x W, J pre W → pre.length < M.length → YieldAt F (n - 1) Tryz.prog l (encIt w0 x) W fun e W' =>
      (e = .returned (.bool true) ∧ J (pre ++ [x]) W' ∧ Below n0 W W') ∨ (e = .returned (.bool false) ∧ Jx (pre ++ [x]) W'))
    (W : World) (hBs : W.cell? ⟨Bs, 0, none⟩ = some (.slice A M.length cap)) (hW : Below w0.heap.size w0 W) (h0 : J [] W) :
    CallsIn F n Tryz.prog 121 #[.func (.yield l) #[] #[], .pointer (some ⟨Bs, 0, none⟩)] W fun e W' => (∃ v, e = .returned v) ∧
      ((∃ ys, ys = zs ∧ J ys W') ∨ (∃ pre, (∃ k, k ≤ M.length ∧ pre = zs.take k) ∧ Jx pre W')) := by
  have hmx := hTV.sv.le
  have hmy := hTV.sv.most
  unfold maxLen at hmy
  have HTV := hide hTV
  have HZ := hide hz
  have HW := hide hW
  clear hTV hz hW
  refine callsIn_of_wp Tryz.func121 rfl h37 ?_ hro
  simp only [Tryz.ntmps121, List.size_toArray, List.length_cons, List.length_nil, Nat.reduceAdd, Nat.reduceSub, Array.replicate_succ, Array.replicate_zero, List.push_toArray, List.append_toArray, List.nil_append, List.cons_append]
  gi_wp2
  gi_loopw [3] (fun i wr => ∃ k : Nat, k ≤ M.length ∧ i = .int .i64 ((k : Int) - 1) ∧ J (zs.take (M.length - k)) wr ∧ Below n0 W wr) (fun i _ => (intOf i + 1).toNat)
  case atStart => exact ⟨M.length, Nat.le_refl _, rfl, by rw [Nat.sub_self]; exact h0, Below.refl _ _⟩
  case round =>
    obtain ⟨k, hk, rfl, hJs, hnx⟩ := hrel
    have hBs' : (wr : World).cell? ⟨Bs, 0, none⟩ = some (.slice A M.length cap) := (hnx.cell (p := ⟨Bs, 0, none⟩) hBs0).trans hBs
    by_cases hlt : 1 ≤ k
    · obtain ⟨j, rfl⟩ : ∃ j, k = j + 1 := ⟨k - 1, by omega⟩
      obtain ⟨z, hzj⟩ := get_of (l := zs) (k := M.length - (j + 1)) (by rw [HZ.out.1]; omega)
      obtain ⟨z1, z2⟩ := HZ.out.2 _ z hzj
      have ej : M.length - 1 - (M.length - (j + 1)) = j := by omega
      rw [ej] at z1 z2
      obtain ⟨fn, tmps, assign, body, hy, hR⟩ := hY _ z wr hJs (by rw [List.length_take, HZ.out.1]; omega)
      dsimp only [encIt] at hy
      rw [z1] at hy
      have hbw : Below w0.heap.size w0 wr := HW.out.trans (hnx.mono hn0)
      obtain ⟨bb, off, rfl, hbl, c0, c1, c2, c3, c4, c5, c6, c7, c8⟩ := (HTV.out.below hbw).sv.sl.vw z2
      have hj : ((j + 1 : Nat) : Int) - 1 = (j : Int) := by omega
      have hk0 : (0 : Int) ≤ (j : Int) := by omega
      have hk1 : (j : Int) < (M.length : Int) := by omega
      have HT := hide (take_of hzj)
      rw [hj]
      clear hzj z1 z2 ej hbw
      gi_wp2
      refine hR.mono ?_
      rintro e W3 (⟨rfl, hJ3, hk3⟩ | ⟨rfl, hJx3⟩)
      · rw [← HT.out, show M.length - (j + 1) + 1 = M.length - j by omega] at hJ3
        have HJ3 := hide hJ3
        clear hJ3 c0 c1 c2 c3 c4 c5 c6 c7 c8 hy hR hJs
        gi_wp2
        go_roundw
        case rel => exact ⟨j, by omega, rfl, HJ3.out, hnx.trans hk3⟩
        case measure => simp [intOf] <;> omega
      · rw [← HT.out, show M.length - (j + 1) + 1 = M.length - j by omega] at hJx3
        have HJ3 := hide hJx3
        clear hJx3 c0 c1 c2 c3 c4 c5 c6 c7 c8 hy hR hJs
        gi_wp2
        refine bodyPost_ret (results_none rfl _ _ _) rfl ?_
        exact ⟨⟨_, rfl⟩, .inr ⟨_, ⟨M.length - j, by omega, rfl⟩, HJ3.out⟩⟩
    · obtain rfl : k = 0 := by omega
      rw [List.take_of_length_le (by rw [HZ.out.1]; omega)] at hJs
      have hneg : ¬ ((0 : Int) ≤ ((0 : Nat) : Int) - 1) := by omega
      gi_wp2
      go_end0
      exact ⟨⟨_, rfl⟩, .inl hJs⟩
set_option maxHeartbeats 1000000 in
theorem back_in (F : Fence) (n : Nat) (h26 : F.fn 70) (hro : F.round = none) (a : Option Addr) (len cap : Nat) (w : World) :
    CallsIn F n Tryz.prog 70 #[.slice a len cap] w fun e w' => e = .returned (.func (.func 121) #[] #[.pointer (some ⟨w.heap.size, 0, none⟩)]) ∧ w' = w.alloc (.cells #[.slice a len cap] 65) := by
  refine callsIn_of_wp Tryz.func70 rfl h26 ?_ hro
  simp only [Tryz.ntmps70, List.size_toArray, List.length_cons, List.length_nil, Nat.reduceAdd, Nat.reduceSub, Array.replicate_succ, Array.replicate_zero, List.push_toArray, List.append_toArray, List.nil_append, List.cons_append]
  gi_wp2
  go_ret
  exact ⟨rfl, rfl⟩
theorem back_stops (F : Fence) (n : Nat) (h37 : F.fn 121) (hro : F.round = none) (hn : 1 ≤ n) (w0 : World) (Bs n0 cap : Nat) (A : Option Addr) (M : List Vw) (zs : List (It w0)) (hz : Backs w0 M zs) (hTV : TV w0 A M.length cap M) (hn0 : w0.heap.size ≤ n0) (hBs0 : Bs < n0)
    (w : World) (hnw : n0 ≤ w.heap.size) (hBs : w.cell? ⟨Bs, 0, none⟩ = some (.slice A M.length cap)) (hw : Below w0.heap.size w0 w) :
    SeqStopsK F n Tryz.prog 121 #[.pointer (some ⟨Bs, 0, none⟩)] (encIt w0) (Below n0) (fun ys => ys = zs) (fun pre => ∃ k, k ≤ M.length ∧ pre = zs.take k) M.length w := fun l J Jx W hW _ _ hY h0 =>
  back1_in F n h37 hro hn w0 l Bs n0 cap A M zs hz J Jx hTV hn0 hBs0 hY W ((hW.cell (p := ⟨Bs, 0, none⟩) (by simp only; omega)).trans hBs) (chain hw hW) h0
end Go.Proofs.YtmfohnchnbgbaaaGreatDoor

/- The version of a day: the program's walk. -/
namespace Go.Proofs.YtmfohnchnbgbaaaGreatDoor
open Go.RowKit Go.Shelf
attribute [local go_sem] Oper.semAt_some

theorem KeepsOthers.of_below {W W' : World} (h : Below W.heap.size W W') : KeepsOthers W W' :=
  ⟨h.size, fun k _ hk _ => (h.block k (Array.getElem?_eq_some_iff.1 hk).1).trans hk⟩
theorem setV_others (W : World) (g : Nat) (x : Vw) : KeepsOthers W (setV W g x) := by
  unfold setV
  exact ((((((((KeepsOthers.setCell _ _ _).trans (KeepsOthers.setCell _ _ _)).trans (KeepsOthers.setCell _ _ _)).trans (KeepsOthers.setCell _ _ _)).trans (KeepsOthers.setCell _ _ _)).trans (KeepsOthers.setCell _ _ _)).trans (KeepsOthers.setCell _ _ _)).trans (KeepsOthers.setCell _ _ _)).trans (KeepsOthers.setCell _ _ _)
theorem Blk.kept_ {W W' : World} {row : Option Nat} {g : Nat} {t : TypeId} {cs : Array Value} (h : Blk W g t cs) (hg : W.grownBy W' row) (hr : ∀ r, row = some r → ∃ o : Obj, W.heap[r]? = some o ∧ o.isCells = false) : Blk W' g t cs :=
  (grownBy_keeps_cells hg hr (k := g) h rfl).trans h
theorem SV.kept_ {W W' : World} {row : Option Nat} {sz n cap : Nat} {A : Option Addr} {rows : List (List Value)} (h : SV W sz A n cap rows) (hg : W.grownBy W' row) (hr : ∀ r, row = some r → ∃ o : Obj, W.heap[r]? = some o ∧ o.isCells = false) : SV W' sz A n cap rows := by
  refine ⟨fun i r hx => ?_, h.len, h.le, h.most, h.nil⟩
  obtain ⟨b, off, hA, hb, hc⟩ := h.sl i r hx
  have := hg.size
  exact ⟨b, off, hA, by omega, fun j u hu => cell_kept (hc j u hu) hg hr⟩
theorem VOK.kept_ {W W' : World} {row : Option Nat} {x : Vw} (h : VOK W x) (hg : W.grownBy W' row) (hr : ∀ r, row = some r → ∃ o : Obj, W.heap[r]? = some o ∧ o.isCells = false) : VOK W' x :=
  ⟨h.age.kept_ hg hr, h.zone.kept_ hg hr, h.peril.kept_ hg hr⟩

theorem run_load_errno {w : World} {g : Nat} {x : Value} (h : w.cell? ⟨g, 0, none⟩ = some x) : (loadVar 27 ⟨g, 0, none⟩).run Tryz.prog w = .ok x w := by
  simp [go_sem, h]
theorem ret_m {F : Fence} {n : Nat} {P : Program} {fn : Func} {R : Ending → World → Prop} {tmps : Array Value} {W : World} {p q : Tmp} {ty t2 : TypeId} {D g g2 : Nat} {t u : TypeId} {cs : Array Value} {d : TypeDesc} {x : Value}
    (h : fn.results = #[.cell p ty, .cell q t2]) (hK : W.heap[D]? = some (.deferred (some []))) (hp : tmps.getD p undef = .pointer (some ⟨g, 0, none⟩)) (hq : tmps.getD q undef = .pointer (some ⟨g2, 0, none⟩))
    (hg : Blk W g t cs) (hg2 : Blk W g2 u #[x]) (hu : P.underlying ty = some d) (hd : (match d with | .struct _ | .array _ _ => true | _ => false) = true) (hi : (P.info? ty).map (·.size) = some cs.size)
    (h2 : ∀ w : World, w.cell? ⟨g2, 0, none⟩ = some x → (loadVar t2 ⟨g2, 0, none⟩).run P w = .ok x w)
    (hR : R (.returned (.tuple #[.agg cs, x])) (W.putObj D (.deferred none))) : bodyPostM F n P fn R .ret { tmps, defers := [{ target := .collected D, args := #[] }] } W := by
  have hr : ∀ r, some D = some r → ∃ o : Obj, W.heap[r]? = some o ∧ o.isCells = false := fun r e => by cases e; exact ⟨_, hK, rfl⟩
  have h3 := hg.kept_ (grownBy_putObj' W D (.deferred none)) hr
  have h4 := hg2.kept_ (grownBy_putObj' W D (.deferred none)) hr
  refine ⟨by simp, .inl ⟨_, _, rfl, run_takeDeferred hK, ?_⟩⟩
  refine ⟨_, ?_, hR⟩
  rw [Array.getD_eq_getD_getElem?] at hp hq
  simp only [results, h]
  simp [Sem.run_bind, Result.andThen, hp, hq, asAddr, run_loadVar_row _ g t ty cs (0, 0) d h3 hu hd hi, h2 _ (h4.cell 0)]
/-- Between two rounds; a round has left. -/
def IA (w w6 : World) (d : Int) (pre : List (It w)) (W : World) : Prop := (∀ z ∈ pre, d < z.1.2.f) ∧ Below w6.heap.size w6 W
def IxA (w : World) (d : Int) (c : Code) (pre : List (It w)) (W : World) : Prop := (c = .ret ∧ ∃ ini last, pre = ini ++ [last] ∧ (∀ z ∈ ini, d < z.1.2.f) ∧ last.1.2.f ≤ d ∧ ∃ y : Vw, y.v = last.1.2.v ∧ VOK W y ∧ Blk W (w.heap.size + 1 + 1) 114 (boxV y) ∧ Blk W (w.heap.size + 1 + 1 + 1) 27 #[.int .i64 0]) ∧ Below w.heap.size w W
theorem IA.own (w w6 : World) (d : Int) : OwnFrom w6.heap.size (IA w w6 d) := OwnFrom.and (ownFrom_pure _ _) (ownFrom_below (Nat.le_refl _) (Nat.le_refl _))
theorem IxA.own (w : World) (d : Int) (B : Nat) (hB : w.heap.size ≤ B) (c : Code) : OwnFrom B (IxA w d c) := OwnFrom.and (Own.from (fun s X Y row hs hg hr => by
      obtain ⟨hc, ini, last, e1, e2, e3, y, e4, e5, e6, e7⟩ := hs
      exact ⟨hc, ini, last, e1, e2, e3, y, e4, e5.kept_ hg hr, e6.kept_ hg hr, e7.kept_ hg hr⟩) _) (ownFrom_below (Nat.le_refl _) hB)

set_option maxRecDepth 100000 in
set_option maxHeartbeats 8000000 in
theorem at_any (A : Option Addr) (cap : Nat) (M : List Vw) (d : Int) (w : World) (hs : TV w A M.length cap M) (hm : ∀ x ∈ M, LenV x) :
    Calls Tryz.prog 38 #[.agg #[.slice A M.length cap], .int .i64 d] w (AtP w (atL (allV M) d)) := by
  have HS := hide hs
  have HM := hide hm
  clear hs hm
  refine (callsIn_wide (n := 6)).1 ?_
  refine callsIn_of_wp_marks Tryz.func38 rfl trivial ?_ rfl
  simp only [Tryz.ntmps38, List.size_toArray, List.length_cons, List.length_nil, Nat.reduceAdd, Nat.reduceSub, Array.replicate_succ, Array.replicate_zero, List.push_toArray, List.append_toArray, List.nil_append, List.cons_append]
  gi_wp2
  obtain ⟨w5, hw5⟩ : ∃ W, (((w.alloc (.cells #[.slice A M.length cap] 67)).alloc (.cells #[.int .i64 d] 3)).alloc (.cells #[.int .i64 0, .int .i64 0, .int .i64 0, .int .i64 0, .int .i64 0, .slice none 0 0, .slice none 0 0, .slice none 0 0, .int .i64 0] 114)).alloc (.cells #[.int .i64 0] 27) = W := ⟨_, rfl⟩
  have hD : Blk w5 (w.heap.size + 1) 3 #[.int .i64 d] := by rw [← hw5]; exact ((Blk.new' (by simp)).alloc _).alloc _
  have hZ : Blk w5 (w.heap.size + 1 + 1) 114 zeroV := by rw [← hw5]; exact (Blk.new' (by simp)).alloc _
  have hE : Blk w5 (w.heap.size + 1 + 1 + 1) 27 #[.int .i64 0] := by rw [← hw5]; exact Blk.new' (by simp)
  have h5 : Below w.heap.size w w5 := by rw [← hw5]; exact ((((Below.refl _ _).alloc (Nat.le_refl _) _).alloc (by simp) _).alloc (by simp; omega) _).alloc (by simp; omega) _
  have hs5 : w5.heap.size = w.heap.size + 4 := by rw [← hw5]; simp
  rw [hw5]
  clear hw5
  refine ⟨trivial, ?_⟩
  refine (back_in Fence.wide 5 trivial rfl _ _ _ w5).mono ?_
  rintro e w' ⟨rfl, rfl⟩
  obtain ⟨w6, hw6⟩ : ∃ W, w5.alloc (.cells #[.slice A M.length cap] 65) = W := ⟨_, rfl⟩
  have hS6 : Blk w6 w5.heap.size 65 #[.slice A M.length cap] := by rw [← hw6]; exact Blk.new _ _ _
  have h56 : Below w5.heap.size w5 w6 := by rw [← hw6]; exact (Below.refl _ _).alloc (Nat.le_refl _) _
  have hs6 : w6.heap.size = w.heap.size + 5 := by rw [← hw6]; simp [hs5]
  have hD6 := hD.below h56 hD.lt
  have hZ6 := hZ.below h56 hZ.lt
  have hE6 := hE.below h56 hE.lt
  have h6 := chain h5 h56
  have hb6 : Below w6.heap.size w6 w6 := Below.refl _ _
  rw [hw6]
  rw [hs5] at hS6 ⊢
  clear hw6 hD hZ hE h5 h56 hs5
  gi_wp2
  have hM : ∀ x ∈ M, VOK w x ∧ LenV x := fun x hx => ⟨HS.out.rows x hx, HM.out x hx⟩
  obtain ⟨zs, hzs⟩ := backs_of hM
  refine wpIn_rangeFunc_ownH rfl (by omega) (gf := 121) (lb := #[.pointer (some ⟨w.heap.size + 4, 0, none⟩)]) rfl trivial (enters_of Tryz.func121 (by kernel_rfl) rfl)
    (back_stops Fence.wide 5 trivial rfl (by omega) w (w.heap.size + 4) w6.heap.size cap A M zs hzs HS.out (by omega) (by omega) w6 (Nat.le_refl _) (hS6.cell 0) h6) belowK_t (belowK_b (Nat.le_refl _)) (Below.refl _ _) (fun _ => rfl)
    (IA w w6 d) (IxA w d) (IA.own w w6 d) (IxA.own w d _ (by omega))
    ⟨by simp, hb6⟩
    (fun x a' W => ∃ Bx, w6.heap.size ≤ Bx ∧ Blk W Bx 114 (boxV x.1.2) ∧ a' = { tmps := #[.agg #[.slice A M.length cap], .int .i64 d, .pointer (some ⟨w.heap.size, 0, none⟩), .pointer (some ⟨w.heap.size + 1, 0, none⟩), .pointer (some ⟨w.heap.size + 1 + 1, 0, none⟩), .pointer (some ⟨w.heap.size + 1 + 1 + 1, 0, none⟩), undef, .pointer (some ⟨Bx, 0, none⟩), .pointer (some ⟨w.heap.size, 0, none⟩), .slice A M.length cap, .func (.func 121) #[] #[.pointer (some ⟨w.heap.size + 4, 0, none⟩)], .int .i64 x.1.1, .agg #[.int .i64 x.1.2.f, .int .i64 x.1.2.b0, .int .i64 x.1.2.b1, .int .i64 x.1.2.b2, .int .i64 x.1.2.b3, .slice x.1.2.aA x.1.2.age.length x.1.2.aC, .slice x.1.2.zA x.1.2.zone.length x.1.2.zC, .slice x.1.2.pA x.1.2.peril.length x.1.2.pC, .int .i64 x.1.2.mn], undef, undef, undef, undef, undef, undef, undef], defers := [] })
    (fun x a' _ X Y row hs hg hr => by obtain ⟨Bx, h1, h2, h3⟩ := hs; exact ⟨Bx, h1, h2.kept_ hg (fun r e => (hr r e).2), h3⟩)
    ?assign ?body ?done ?stop
  case assign =>
    rintro l pre ⟨⟨i, v⟩, hv⟩ W K ⟨hi1, hi2⟩ hK
    dsimp only [encIt]
    gi_wp2
    exact hK _ _ ((KeepsOthers.alloc _ _).from _) ((Below.refl _ W).alloc hi2.size _) ⟨hi1, hi2.alloc hi2.size _⟩ ⟨W.heap.size, hi2.size, Blk.new _ _ _, rfl⟩
  case body =>
    rintro l pre x a' W hl ⟨r, hr⟩ ⟨hi1, hi2⟩ ⟨Bx, hBx, bX, rfl⟩ hlt
    obtain ⟨v, hvv⟩ : ∃ v, x.1.2 = v := ⟨_, rfl⟩
    have hv := x.2.1
    have hlv := x.2.2
    have HSZ := hide hs6
    rw [hvv] at bX hv hlv ⊢
    obtain ⟨c0, c1, c2, c3, c4, c5, c6, c7, c8⟩ := blk_cells bX
    have hDW := (hD6.below hi2 hD6.lt).cell 0
    simp at hDW
    have hZW := hZ6.below hi2 hZ6.lt
    have hEW := hE6.below hi2 hE6.lt
    have hbW := chain h6 hi2
    have hvW : VOK W v := VOK.below hv hbW
    have HX := hide hvv
    clear hr hvv hs6 hl
    by_cases hd : v.f ≤ d
    · gi_wp2
      refine ⟨trivial, ?_⟩
      refine (CallsIn.inRound l (callsIn_wide.2 (own_any v W hvW hlv))).mono ?_
      rintro e W1 ⟨y, rfl, hyv, hyw, hyf, hyb⟩
      have hzW1 : Blk W1 (w.heap.size + 1 + 1) 114 zeroV := hZW.below hyb hZW.lt
      have heW1 : Blk W1 (w.heap.size + 1 + 1 + 1) 27 #[.int .i64 0] := hEW.below hyb hEW.lt
      obtain ⟨f0, f1, f2, f3, f4, f5, f6, f7, f8⟩ := blk_frozen hzW1
      have ee := heW1.cell 0
      have ef := heW1.frozen 0
      have e0 := hzW1.cell 0
      have e1 := hzW1.cell 1
      have e2 := hzW1.cell 2
      have e3 := hzW1.cell 3
      have e4 := hzW1.cell 4
      have e5 := hzW1.cell 5
      have e6 := hzW1.cell 6
      have e7 := hzW1.cell 7
      have e8 := hzW1.cell 8
      simp [zeroV] at e0 e1 e2 e3 e4 e5 e6 e7 e8 ee
      have HYW := hide hyw
      have HYF := hide hyf
      have HYB := hide hyb
      have HYV := hide hyv
      clear hyw hyf hyb hyv c0 c1 c2 c3 c4 c5 c6 c7 c8 hvW
      gi_wp2
      have k1 := (KeepsOthers.of_below HYB.out).trans ((setV_others W1 (w.heap.size + 1 + 1) y).trans (KeepsOthers.setCell _ ⟨w.heap.size + 1 + 1 + 1, 0, none⟩ (.int .i64 0)))
      have hsz := HSZ.out
      have hlw : w6.heap.size ≤ W.heap.size := hi2.size
      refine ⟨k1.from _, ⟨rfl, pre, x, rfl, hi1, by rw [HX.out]; exact hd, y, by rw [HX.out]; exact HYV.out, ?_, ?_, ?_⟩, ?_⟩
      · refine HYW.out.only (fun b hb => ?_) (by simp)
        have := HYF.out b hb
        exact (heap_setCell_other _ _ _ _ (show b ≠ (⟨w.heap.size + 1 + 1 + 1, 0, none⟩ : Addr).block by simp only; omega)).trans (setV_other W1 _ y (by omega))
      · exact (setV_blk y hzW1).far (by simp) _
      · have h9 : Blk (setV W1 (w.heap.size + 1 + 1) y) (w.heap.size + 1 + 1 + 1) 27 #[.int .i64 0] := (setV_other W1 _ y (by omega)).trans heW1
        exact h9.set_ 0 (.int .i64 0)
      · exact (setV_below y (chain hbW HYB.out) (by omega)).setCell (p := ⟨w.heap.size + 1 + 1 + 1, 0, none⟩) (by simp only; omega) _
    · gi_wp2
      refine ⟨KeepsFrom.refl _ _, Below.refl _ _, fun z hz => ?_, hi2⟩
      rcases List.mem_append.1 hz with h | h
      · exact hi1 z h
      · simp at h; subst h; rw [HX.out]; omega
  case done =>
    rintro D ys W hD rfl ⟨hi1, hi2⟩ hK
    have hZW := hZ6.below hi2 hZ6.lt
    have hEW := hE6.below hi2 hE6.lt
    have hbW := chain h6 hi2
    obtain ⟨f0, f1, f2, f3, f4, f5, f6, f7, f8⟩ := blk_frozen hZW
    have ee := hEW.cell 0
    have ef := hEW.frozen 0
    have e0 := hZW.cell 0
    have e1 := hZW.cell 1
    have e2 := hZW.cell 2
    have e3 := hZW.cell 3
    have e4 := hZW.cell 4
    have e5 := hZW.cell 5
    have e6 := hZW.cell 6
    have e7 := hZW.cell 7
    have e8 := hZW.cell 8
    simp [zeroV] at e0 e1 e2 e3 e4 e5 e6 e7 e8 ee
    have HSZ := hide hs6
    clear hs6
    gi_wp2
    have HA := hide (atL_none (l := allV M) (d := d) (fun j y hy => by
      obtain ⟨v, hv, rfl⟩ : ∃ v, M[j]? = some v ∧ v.v = y := by
        simp only [allV, List.getElem?_map, Option.map_eq_some_iff] at hy
        exact hy
      have hj := lt_of_get hv
      obtain ⟨z, hz⟩ := get_of (l := ys) (k := M.length - 1 - j) (by rw [hzs.1]; omega)
      have h1 := (hzs.2 _ z hz).2
      rw [show M.length - 1 - (M.length - 1 - j) = j by omega, hv] at h1
      cases h1
      exact hi1 z (List.mem_of_getElem? hz)))
    have hDl : D < W.heap.size := (Array.getElem?_eq_some_iff.1 hK).1
    have hsz := HSZ.out
    have hK2 := ((setV_others W (w.heap.size + 1 + 1) zeroW).trans (KeepsOthers.setCell _ ⟨w.heap.size + 1 + 1 + 1, 0, none⟩ (.int .i64 7))).same D _ hK rfl
    have h9 : Blk (setV W (w.heap.size + 1 + 1) zeroW) (w.heap.size + 1 + 1 + 1) 27 #[.int .i64 0] := (setV_other W _ zeroW (by omega)).trans hEW
    refine ret_m (p := 4) (q := 5) (g := w.heap.size + 1 + 1) (g2 := w.heap.size + 1 + 1 + 1) (cs := zeroV) (x := .int .i64 7) (t := 114) (u := 27) rfl hK2 rfl rfl ((setV_blk zeroW hZW).far (by simp) _) (h9.set_ 0 (.int .i64 7)) Tryz.underlying114 rfl (by kernel_rfl) (fun _ h => run_load_errno h) ?_
    rw [HA.out]
    exact ⟨((setV_below zeroW hbW (by omega)).setCell (p := ⟨w.heap.size + 1 + 1 + 1, 0, none⟩) (by simp only; omega) _).trans (belowK_b (w := w) (Nat.le_refl _) _ D _ _ (by omega) hK2 rfl rfl), .inl ⟨rfl, rfl⟩⟩
  case stop =>
    rintro D c pre W hD ⟨k, hk, rfl⟩ ⟨⟨rfl, ini, last, e1, e2, e3, y, e4, e5, e6, e7⟩, hB⟩ hK
    gi_wp2
    have hr : ∀ r, some D = some r → ∃ o : Obj, W.heap[r]? = some o ∧ o.isCells = false := fun r e => by cases e; exact ⟨_, hK, rfl⟩
    have HA : atL (allV M) d = some last.1.2.v := by
      have hk0 : k = ini.length + 1 := by
        have := congrArg List.length e1
        rw [List.length_take, hzs.1, Nat.min_eq_left hk] at this
        simpa using this
      have hl : zs[ini.length]? = some last := by
        have h1 : (zs.take k)[ini.length]? = some last := by rw [e1]; simp
        rw [List.getElem?_take] at h1
        rw [if_pos (by omega)] at h1
        exact h1
      have h2 := (hzs.2 _ _ hl).2
      refine atL_hit (k := M.length - 1 - ini.length) (allV_get h2) e3 (fun j y hj hy => ?_)
      obtain ⟨v, hv, rfl⟩ : ∃ v, M[j]? = some v ∧ v.v = y := by
        simp only [allV, List.getElem?_map, Option.map_eq_some_iff] at hy
        exact hy
      have hj2 := lt_of_get hv
      obtain ⟨z, hz⟩ := get_of (l := zs) (k := M.length - 1 - j) (by rw [hzs.1]; omega)
      have h3 := (hzs.2 _ z hz).2
      rw [show M.length - 1 - (M.length - 1 - j) = j by omega, hv] at h3
      cases h3
      refine e2 z ?_
      have h4 : (zs.take k)[M.length - 1 - j]? = some z := by rw [List.getElem?_take, if_pos (by omega)]; exact hz
      rw [e1, List.getElem?_append_left (by omega)] at h4
      exact List.mem_of_getElem? h4
    refine ret_m (p := 4) (q := 5) (g := w.heap.size + 1 + 1) (g2 := w.heap.size + 1 + 1 + 1) (cs := boxV y) (x := .int .i64 0) (t := 114) (u := 27) rfl hK rfl rfl e6 e7 Tryz.underlying114 rfl (by kernel_rfl) (fun _ h => run_load_errno h) ?_
    rw [HA]
    exact ⟨hB.trans (belowK_b (w := w) (Nat.le_refl _) _ D _ _ (by omega) hK rfl rfl), .inr ⟨_, rfl, y, rfl, e4, e5.kept_ (grownBy_putObj' W D (.deferred none)) hr⟩⟩
end Go.Proofs.YtmfohnchnbgbaaaGreatDoor

/- A policy's slices, with what they cost. -/
namespace Go.Proofs.YtmfohnchnbgbaaaGreatDoor
open Go.RowKit

def ycOf (v : Ver) (s : Sp) : Sp := if s.on = true then { s with y := (yearQ v s.rk s.rv s.ra s.rz s.l).1 } else s
def ycE (v : Ver) (s : Sp) : Int := if s.on = true then (yearQ v s.rk s.rv s.ra s.rz s.l).2 else 0
def errL (v : Ver) : List Sp → Int
  | [] => 0
  | s :: r => if ycE v s = 0 then errL v r else ycE v s
def valL (v : Ver) (l : List Sp) : List Sp := l.map (ycOf v)
theorem errL_drop {v : Ver} {l : List Sp} {k : Nat} {s : Sp} (h : l[k]? = some s) : errL v (l.drop k) = if ycE v s = 0 then errL v (l.drop (k + 1)) else ycE v s := by rw [drop_of h, errL]
def ycSc (v : Ver) (x : Sc) : Sc := if x.on = true then { x with y := (yearQ v x.rk x.rv x.ra x.rz x.l).1 } else x
theorem ycSc_v (v : Ver) (x : Sc) : (ycSc v x).v = ycOf v x.v := by
  unfold ycSc ycOf
  by_cases h : x.on = true
  · rw [if_pos h, if_pos (show x.v.on = true from h)]; rfl
  · rw [if_neg h, if_neg (show ¬x.v.on = true from h)]
theorem ycSc_cov (v : Ver) (x : Sc) : (ycSc v x).A = x.A ∧ (ycSc v x).l = x.l ∧ (ycSc v x).cap = x.cap := by
  unfold ycSc; split <;> simp
/-- The first k of them have their cost. -/
def curL (v : Ver) (out : List Sc) (k : Nat) : List Sc := (out.take k).map (ycSc v) ++ out.drop k
theorem curL_len (v : Ver) (out : List Sc) (k : Nat) : (curL v out k).length = out.length := by simp [curL]; omega
theorem curL_at {v : Ver} {out : List Sc} {k : Nat} {x : Sc} (h : out[k]? = some x) : (curL v out k)[k]? = some x := by
  have hk := lt_of_get h
  rw [curL, List.getElem?_append_right (by simp; omega)]
  simp [Nat.min_eq_left (Nat.le_of_lt hk), h]
theorem curL_succ {v : Ver} {out : List Sc} {k : Nat} {x : Sc} (h : out[k]? = some x) : curL v out (k + 1) = (curL v out k).set k (ycSc v x) := by
  have hk := lt_of_get h
  rw [curL, curL, take_of h, List.map_append, List.set_append_right _ _ (by simp; omega)]
  simp [Nat.min_eq_left (Nat.le_of_lt hk), drop_of h]
section
variable {w w' : World} {B cap : Nat} {A : Option Addr} {out : List Sc}
theorem Made.below (h : Made w B A cap out) (hb : Below w.heap.size w w') : Made w' B A cap out := ⟨h.own.below hb, fun x hx => (h.sv x hx).below hb, h.ap⟩
theorem Made.set_ {g k : Nat} {x : Sc} {y : Int} (h : Made w B (some ⟨g, 0, none⟩) cap out) (hx : out[k]? = some x) : Made (w.setCell ⟨g, k * 9 + 8, none⟩ (.int .i64 y)) B (some ⟨g, 0, none⟩) cap (out.set k { x with y := y }) := by
  have hrow : (out.map encSc)[k]? = some (encSc x) := by simp [hx]
  have ho := h.own.set_ (i := k) (j := 8) hrow (by omega) (u := .int .i64 y) rfl
  have hmem := List.mem_of_getElem? hx
  have hcov : ∀ z ∈ out.set k { x with y := y }, ∃ z' ∈ out, z.A = z'.A ∧ z.l = z'.l ∧ z.cap = z'.cap := by
    intro z hz
    rcases List.mem_or_eq_of_mem_set hz with hz | rfl
    · exact ⟨z, hz, rfl, rfl, rfl⟩
    · exact ⟨x, hmem, rfl, rfl, rfl⟩
  refine ⟨?_, fun z hz => ?_, fun z hz b hb => ?_⟩
  · rw [List.length_set]
    rw [show (out.map encSc).set k ((encSc x).set 8 (.int .i64 y)) = (out.set k { x with y := y }).map encSc by rw [List.map_set]; rfl] at ho
    exact ho
  · obtain ⟨z', hz', e1, e2, e3⟩ := hcov z hz
    rw [e1, e2, e3]
    exact (h.sv z' hz').setFar (fun b hb e => h.ap z' hz' b hb (by rw [e]; rfl)) _
  · obtain ⟨z', hz', e1, e2, e3⟩ := hcov z hz
    rw [e1] at hb
    exact h.ap z' hz' b hb
end
theorem does_cov {P : List Cv → Prop} {s : Sp} {c : Ch} (h : P s.l) (hc : P c.l) : P (doesV s c).l := by
  unfold doesV
  split
  · exact h
  · split
    · exact hc
    · split
      · exact h
      · split <;> exact h
theorem end_cov {P : List Cv → Prop} {d : Int} {now : Sp} {out : List Sp} (h : P now.l) (ho : ∀ z ∈ out, P z.l) : ∀ z ∈ endV d now out, P z.l := by
  unfold endV
  split
  · exact ho
  · rcases nil_or_snoc out with rfl | ⟨r, last, rfl⟩
    · intro z hz
      simp at hz; subst hz; exact h
    · simp only [List.getLast?_append, List.getLast?_singleton, Option.some_or]
      split
      · intro z hz
        rw [List.dropLast_concat, List.mem_append, List.mem_singleton] at hz
        rcases hz with hz | rfl
        · exact ho z (by simp [hz])
        · exact ho last (by simp)
      · intro z hz
        rw [List.mem_append, List.mem_singleton] at hz
        rcases hz with hz | rfl
        · exact ho z hz
        · exact h
theorem fold_cov {P : List Cv → Prop} : ∀ (L : List Ch) (s : Sp × List Sp), P s.1.l → (∀ z ∈ s.2, P z.l) → (∀ c ∈ L, P c.l) → P (L.foldl stepV s).1.l ∧ ∀ z ∈ (L.foldl stepV s).2, P z.l
  | [], _, h1, h2, _ => ⟨h1, h2⟩
  | c :: r, s, h1, h2, h3 => fold_cov r _ (does_cov (s := { s.1 with f := c.d }) h1 (h3 c (by simp))) (end_cov h1 h2) (fun z hz => h3 z (by simp [hz]))
theorem cut_cov {P : List Cv → Prop} {x : Tm} {L : List Ch} (h0 : P x.l) (hL : ∀ c ∈ L, P c.l) : ∀ z ∈ cutV x L, P z.l := by
  have := fold_cov L (now0 x, []) h0 (by simp) hL
  exact end_cov this.1 this.2
theorem set_self {α : Type} : ∀ {l : List α} {k : Nat} {x : α}, l[k]? = some x → l.set k x = l
  | [], k, x, h => by simp at h
  | a :: r, 0, x, h => by simp at h; subst h; rfl
  | a :: r, k + 1, x, h => by rw [List.set_cons_succ, set_self (l := r) (by simpa using h)]
/-- What is asked of the changes' order. -/
structure Ordd (w : World) (h : Hi) (L : List Ch) : Prop where
  ex : ∃ O : List Nat, O.length ≤ 2000 ∧ (∀ (j o : Nat), O[j]? = some o → ∃ c, h.cs[o]? = some c ∧ L[j]? = some c) ∧ L.length = O.length ∧ ∀ W, Below w.heap.size w W → Calls Tryz.prog 74 #[.agg #[.int .i64 h.id, .int .i64 h.bk, .int .i64 h.tm.f, .int .i64 h.tm.t, .int .i64 h.tm.k, .int .i64 h.tm.v, .int .i64 h.tm.a, .int .i64 h.tm.z, .slice h.tm.A h.tm.l.length h.tm.cap, .slice h.A h.cs.length h.cap]] W (OrdP O W)
theorem Ordd.below {w w' : World} {h : Hi} {L : List Ch} (ho : Ordd w h L) (hb : Below w.heap.size w w') : Ordd w' h L := by
  obtain ⟨O, h1, h2, h3, h4⟩ := ho.ex
  exact ⟨O, h1, h2, h3, fun W hW => h4 W (chain hb hW)⟩
theorem kinds_of {h : Hi} (hr : rightH h = true) : h.tm.l.length ≤ 8 ∧ ∀ c ∈ h.cs, c.k = 2 → c.l.length ≤ 8 := by
  rw [rightH, Bool.and_eq_true, Bool.and_eq_true] at hr
  obtain ⟨h1, h2, -⟩ := hr
  constructor
  · simp only [termsB, allOf, List.all_cons, List.all_nil, Bool.and_true, Bool.and_eq_true, id] at h2
    have := h2.2.2.2
    simp only [coversB, Bool.and_eq_true, decide_eq_true_eq] at this
    exact this.2.2
  · intro c hc hk
    rw [chsB, List.all_eq_true] at h1
    have h3 := h1 c hc
    simp only [chB, changeB, Bool.and_eq_true, kindB, hk] at h3
    have h4 := h3.1.2
    rw [if_neg (by omega), if_pos trivial] at h4
    simp only [kind2, Bool.and_eq_true, coversB, decide_eq_true_eq] at h4
    exact h4.1.1.2.2
def slE (h : Hi) (L : List Ch) (M : List Ver) : Int := if rightH h = true then (match atL M h.tm.f with | none => 7 | some v => errL v (cutV h.tm L)) else 1
def slL (h : Hi) (L : List Ch) (M : List Ver) : List Sp := match atL M h.tm.f with | none => [] | some v => valL v (cutV h.tm L)
def SlcP (E : Int) (V : List Sp) (w : World) (e : Ending) (w' : World) : Prop :=
  Below w.heap.size w w' ∧ ((E ≠ 0 ∧ e = .returned (.tuple #[.slice none 0 0, .int .i64 E])) ∨ (E = 0 ∧ ∃ (A : Option Addr) (cap : Nat) (out : List Sc), e = .returned (.tuple #[.slice A out.length cap, .int .i64 0]) ∧ out.map Sc.v = V ∧ Made w' w.heap.size A cap out))

set_option maxRecDepth 100000 in
set_option maxHeartbeats 4000000 in
theorem slc_any (h : Hi) (L : List Ch) (A : Option Addr) (cap : Nat) (M : List Vw) (w : World) (hv : HV w h) (hT : TV w A M.length cap M) (hm : ∀ x ∈ M, LenV x) (hord : rightH h = true → Ordd w h L) :
    Calls Tryz.prog 18 #[.agg #[.int .i64 h.id, .int .i64 h.bk, .int .i64 h.tm.f, .int .i64 h.tm.t, .int .i64 h.tm.k, .int .i64 h.tm.v, .int .i64 h.tm.a, .int .i64 h.tm.z, .slice h.tm.A h.tm.l.length h.tm.cap, .slice h.A h.cs.length h.cap], .agg #[.slice A M.length cap]] w (SlcP (slE h L (allV M)) (slL h L (allV M)) w) := by
  obtain ⟨n, hn⟩ : ∃ n, M.length = n := ⟨_, rfl⟩
  have HN := hide hn
  have HV := hide hv
  have HT := hide hT
  have HM := hide hm
  have HORD := hide hord
  obtain ⟨w1, hw1⟩ : ∃ W, (w.alloc (.cells (hiC h) 64)).alloc (.cells #[.slice A M.length cap] 67) = W := ⟨_, rfl⟩
  have hB : Blk w1 w.heap.size 64 (hiC h) := by rw [← hw1]; exact (Blk.new _ _ _).alloc _
  have hS : Blk w1 (w.heap.size + 1) 67 #[.slice A M.length cap] := by rw [← hw1]; exact Blk.new' (by simp)
  have hb1 : Below w.heap.size w w1 := by rw [← hw1]; exact ((Below.refl _ _).alloc (Nat.le_refl _) _).alloc (by simp) _
  obtain ⟨z0, z1, z2, z3, z4, z5, z6, z7, z8, z9⟩ := hi_cells hB
  have s0 := hS.cell 0
  simp at s0
  have lt0 := hS.lt
  have HB := hide hB
  have HS := hide hS
  have H1 := hide hb1
  have HW := hide hw1
  obtain ⟨b1, hb1'⟩ : ∃ B, rightH h = B := ⟨_, rfl⟩
  have K1 := hide hb1'
  obtain ⟨E, hE⟩ : ∃ E, slE h L (allV M) = E := ⟨_, rfl⟩
  obtain ⟨V, hV⟩ : ∃ V, slL h L (allV M) = V := ⟨_, rfl⟩
  have HE := hide hE
  have HVV := hide hV
  rw [hE, hV]
  clear hB hS hb1 hw1 hn hv hT hm hord hb1' hE hV
  go_enter Tryz.func18, Tryz.ntmps18
  go_upto_region 1 with fail
  rw [show (w.alloc (.cells #[.int .i64 h.id, .int .i64 h.bk, .int .i64 h.tm.f, .int .i64 h.tm.t, .int .i64 h.tm.k, .int .i64 h.tm.v, .int .i64 h.tm.a, .int .i64 h.tm.z, .slice h.tm.A h.tm.l.length h.tm.cap, .slice h.A h.cs.length h.cap] 64)).alloc (.cells #[.slice A M.length cap] 67) = w1 from HW.out]
  go_wp2_with fail
  refine (right_is K1.out _ (HV.out.below H1.out)).mono ?_
  rintro e w2 ⟨rfl, h2⟩
  cases b1
  · have hE : E = 1 := by rw [← HE.out, slE, K1.out]; rfl
    subst hE
    have H2 := hide (chain H1.out h2)
    clear h2
    go_wp2_with fail
    go_ret2
    exact ⟨H2.out, .inl ⟨by omega, rfl⟩⟩
  have s0 := kept h2 s0
  have z2 := kept h2 z2
  have H12 := hide h2
  have H2 := hide (chain H1.out h2)
  have HT2 := hide (HT.out.below (chain H1.out h2))
  clear h2
  go_wp2_with fail
  refine (at_any A cap M h.tm.f _ HT2.out HM.out).mono ?_
  rintro e w3 ⟨h3, hr⟩
  have HW3 := hide (chain H2.out h3)
  have hB3 := (HB.out.below (chain H12.out h3) (by omega))
  obtain ⟨x0, x1, x2, x3, x4, x5, x6, x7, x8, x9⟩ := hi_cells hB3
  have hz3 : w.heap.size + 1 < w3.heap.size := by have := h3.size; have := H12.out.size; omega
  clear h3 hB3 s0 z2
  rcases hr with ⟨hno, rfl⟩ | ⟨v, hyes, x, rfl, hxv, hxo⟩
  · have hE : E = 7 := by rw [← HE.out, slE, K1.out, hno]; rfl
    subst hE
    clear hno
    go_wp2_with fail
    go_ret2
    exact ⟨HW3.out.alloc HW3.out.size _, .inl ⟨by omega, rfl⟩⟩
  · have HYES := hide hyes
    have HXV := hide hxv
    have HXO := hide hxo
    clear hyes hxv hxo
    obtain ⟨w4, hw4⟩ : ∃ W, w3.alloc (.cells (boxV x) 114) = W := ⟨_, rfl⟩
    have hb4 : Below w3.heap.size w3 w4 := by rw [← hw4]; exact (Below.refl _ _).alloc (Nat.le_refl _) _
    have HX4 := hide (show Blk w4 w3.heap.size 114 (boxV x) by rw [← hw4]; exact Blk.new _ _ _)
    have hX4 := HX4.out.lt
    have y0 := kept hb4 x0
    have y1 := kept hb4 x1
    have y2 := kept hb4 x2
    have y3 := kept hb4 x3
    have y4 := kept hb4 x4
    have y5 := kept hb4 x5
    have y6 := kept hb4 x6
    have y7 := kept hb4 x7
    have y8 := kept hb4 x8
    have y9 := kept hb4 x9
    have HXO4 := hide (HXO.out.below hb4)
    have HB4 := hide (chain HW3.out hb4)
    have HW4 := hide hw4
    clear hw4 hb4 x0 x1 x2 x3 x4 x5 x6 x7 x8 x9
    go_upto_region 6 with fail
    rw [show w3.alloc (.cells #[.int .i64 x.f, .int .i64 x.b0, .int .i64 x.b1, .int .i64 x.b2, .int .i64 x.b3, .slice x.aA x.age.length x.aC, .slice x.zA x.zone.length x.zC, .slice x.pA x.peril.length x.pC, .int .i64 x.mn] 114) = w4 from HW4.out]
    obtain ⟨X, hX⟩ : ∃ X, w3.heap.size = X := ⟨_, rfl⟩
    rw [hX] at HX4 hX4 ⊢
    clear hX HW4
    obtain ⟨O, o1, o2, o3, o4⟩ := ((HORD.out K1.out).below HB4.out).ex
    have HCOV := hide (cut_cov (P := fun l => ∀ c ∈ l, okCv c) (x := h.tm) (L := L) HV.out.ot (fun c hc => by
      obtain ⟨j, hj⟩ := List.mem_iff_getElem?.1 hc
      obtain ⟨o, ho⟩ := get_of (l := O) (k := j) (by rw [← o3]; exact lt_of_get hj)
      obtain ⟨c', hc1, hc2⟩ := o2 j o ho
      obtain rfl : c = c' := by rw [hj] at hc2; exact Option.some.inj hc2
      exact (HV.out.oc c (List.mem_of_getElem? hc1)).2))
    have hk8 := kinds_of K1.out
    have HCUT := hide (cut_any h O L w4 (HV.out.below HB4.out) hk8.1 hk8.2 o1 o2 o3 o4)
    clear o1 o2 o3 o4 hk8
    go_wp2_with fail
    refine HCUT.out.mono ?_
    rintro e w5 ⟨A5, cap5, out, rfl, hov, hmade, h5⟩
    clear HCUT y0 y1 y2 y3 y4 y5 y6 y7 y8 y9
    obtain ⟨m, hm⟩ : ∃ m, out.length = m := ⟨_, rfl⟩
    have HMM := hide hm
    rw [hm]
    have hcl := hmade.own.cap_le
    unfold maxLen at hcl
    rw [hm] at hcl
    have HMD := hide hmade
    have HOV := hide hov
    have H5 := hide h5
    have HOKC := hide (show ∀ s ∈ out, ∀ c ∈ s.l, okCv c from fun s hs => HCOV.out s.v (by rw [← hov]; exact List.mem_map_of_mem hs))
    have HEE := hide (show errL v (out.map Sc.v) = E by rw [← HE.out, slE, K1.out, HYES.out, hov]; rfl)
    have HVE := hide (show V = (curL v out m).map Sc.v by
      rw [← HVV.out, slL, HYES.out, curL, List.take_of_length_le (by omega), List.drop_eq_nil_of_le (by omega), List.append_nil, ← hov]
      simp only [valL, List.map_map]
      apply List.map_congr_left
      intro z hz
      exact (ycSc_v v z).symm)
    clear hm hov hmade h5
    go_wp2_with fail
    go_loopw [30] (fun q wr => ∃ (i : Nat), i ≤ m ∧ q = .int .i64 i ∧ Made wr w4.heap.size A5 cap5 (curL v out i) ∧ errL v ((out.map Sc.v).drop i) = E ∧ Below w4.heap.size w4 wr) (fun q _ => m - (RowKit.intOf q).toNat)
    case atStart => exact ⟨0, Nat.zero_le _, rfl, HMD.out, HEE.out, H5.out⟩
    case round =>
      obtain ⟨i, hi, rfl, hmade, herr, hb⟩ := hrel
      have HMD2 := hide hmade
      have HERR := hide herr
      have HBW := hide hb
      have hsz := hb.size
      clear hmade herr hb
      by_cases hlt : i < m
      · obtain ⟨s, hs⟩ := get_of (l := out) (k := i) (by rw [HMM.out]; exact hlt)
        have hcs := curL_at (v := v) hs
        obtain ⟨g, hg⟩ : ∃ g, A5 = some ⟨g, 0, none⟩ := by
          rcases HMD2.out.own.addr with ⟨-, h0, -⟩ | ⟨g, hg, -⟩
          · rw [curL_len, HMM.out] at h0; omega
          · exact ⟨g, hg⟩
        subst hg
        obtain ⟨b, off, hA, hbl, c0, c1, c2, c3, c4, c5, c6, c7, c8⟩ := HMD2.out.own.sl.sc hcs
        obtain ⟨rfl, rfl⟩ : g = b ∧ 0 = off := by simpa using hA
        simp only [Nat.zero_add] at c0 c1 c2 c3 c4 c5 c6 c7 c8
        have hk0 : (0 : Int) ≤ (i : Int) := by omega
        have hk1 : (i : Int) < (m : Int) := by omega
        have HCS := hide hcs
        have HSM := hide (List.mem_of_getElem? hs)
        have HSV := hide (HMD2.out.sv s (List.mem_of_getElem? hcs))
        have HSU := hide (curL_succ (v := v) hs)
        have HED := hide (errL_drop (v := v) (l := out.map Sc.v) (k := i) (s := s.v) (by simp [hs]))
        have hls := lt_of_get hcs
        rw [curL_len, HMM.out] at hls
        clear hs hcs hA
        have hgw : g < wr.heap.size := hbl
        have hXw : X < wr.heap.size := by omega
        by_cases hon : s.on = true
        · have HNE := hide (show ycE v s.v = (yearQ v s.rk s.rv s.ra s.rz s.l).2 by rw [ycE, if_pos (show s.v.on = true from hon)]; rfl)
          have HNV := hide (show ycSc v s = { s with y := (yearQ v s.rk s.rv s.ra s.rz s.l).1 } by rw [ycSc, if_pos hon])
          rw [hon] at c2
          obtain ⟨w6, hw6⟩ : ∃ W, wr.alloc (.cells (scC { s with on := true }) 121) = W := ⟨_, rfl⟩
          have hb6 : Below wr.heap.size wr w6 := by rw [← hw6]; exact (Below.refl _ _).alloc (Nat.le_refl _) _
          have hS6 : Blk w6 wr.heap.size 121 (scC { s with on := true }) := by rw [← hw6]; exact Blk.new _ _ _
          have k3 : w6.cell? ⟨wr.heap.size, 3, none⟩ = some (.int .i64 s.rk) := hS6.cell 3
          have k4 : w6.cell? ⟨wr.heap.size, 4, none⟩ = some (.int .i64 s.rv) := hS6.cell 4
          have k5 : w6.cell? ⟨wr.heap.size, 5, none⟩ = some (.int .i64 s.ra) := hS6.cell 5
          have k6 : w6.cell? ⟨wr.heap.size, 6, none⟩ = some (.int .i64 s.rz) := hS6.cell 6
          have k7 : w6.cell? ⟨wr.heap.size, 7, none⟩ = some (.slice s.A s.l.length s.cap) := hS6.cell 7
          have hXb := (HX4.out.below HBW.out hX4).below hb6 hXw
          have v0 := hXb.cell 0
          have v1 := hXb.cell 1
          have v2 := hXb.cell 2
          have v3 := hXb.cell 3
          have v4 := hXb.cell 4
          have v5 := hXb.cell 5
          have v6 := hXb.cell 6
          have v7 := hXb.cell 7
          have v8 := hXb.cell 8
          simp [boxV] at v0 v1 v2 v3 v4 v5 v6 v7 v8
          have HW6 := hide hw6
          have HB6 := hide hb6
          have HM6 := hide (HMD2.out.below hb6)
          obtain ⟨R, hR⟩ : ∃ R, yearQ v s.rk s.rv s.ra s.rz s.l = R := ⟨_, rfl⟩
          rw [hR] at HNE HNV
          have HYC := hide (yearC_any x s.rk s.rv s.ra s.rz s.A s.cap s.l.length s.l w6 ((HXO4.out.below HBW.out).below hb6) (HSV.out.below hb6) (HOKC.out s HSM.out))
          rw [HXV.out, hR] at HYC
          clear hw6 hb6 hS6 hXb hR
          obtain ⟨y, er⟩ := R
          simp only at HNE HNV
          go_upto_region 10 with fail
          rw [show wr.alloc (.cells #[.int .i64 s.f, .int .i64 s.t, .bool true, .int .i64 s.rk, .int .i64 s.rv, .int .i64 s.ra, .int .i64 s.rz, .slice s.A s.l.length s.cap, .int .i64 s.y] 121) = w6 from HW6.out]
          have k2 : w6.cell? ⟨wr.heap.size, 2, none⟩ = some (.bool true) := by rw [← HW6.out]; exact (Blk.new wr 121 (scC { s with on := true })).cell 2
          clear c0 c1 c2 c3 c4 c5 c6 c7 c8
          go_wp2_with fail
          refine HYC.out.mono ?_
          rintro e w7 ⟨rfl, h7⟩
          have HM7 := hide (HM6.out.below h7)
          have hgw7 : g < w7.heap.size := by have := h7.size; have := HB6.out.size; omega
          have e8 : w7.cell? ⟨g, i * 9 + 8, none⟩ = some (.int .i64 s.y) := by
            obtain ⟨b', off', hA', -, -, -, -, -, -, -, -, -, q8⟩ := HM7.out.own.sl.sc HCS.out
            obtain ⟨rfl, rfl⟩ : g = b' ∧ 0 = off' := by simpa using hA'
            simpa using q8
          have f8 : w7.frozen? ⟨g, i * 9 + 8, none⟩ = false := HM7.out.own.frozen _
          have HB7 := hide (chain HBW.out (chain HB6.out h7))
          clear h7 k2 k3 k4 k5 k6 k7 v0 v1 v2 v3 v4 v5 v6 v7 v8
          by_cases her : er = 0
          · subst her
            go_wp2_with fail
            go_roundw
            case rel => exact ⟨i + 1, by omega, by go_num, by rw [HSU.out, HNV.out]; exact HM7.out.set_ HCS.out, by have := HERR.out; rw [HED.out, HNE.out, if_pos rfl] at this; exact this, HB7.out.setCell (by have := (HM7.out.own.lt g rfl).1; exact this) _⟩
            case measure => simp [RowKit.intOf]; omega
          · have hne : (er != 0) = true := by simpa using her
            have hE : E = er := by
              have := HERR.out
              rw [HED.out, HNE.out, if_neg her] at this
              exact this.symm
            have HNZ := hide her
            subst hE
            clear her
            go_wp2_with fail
            go_ret2
            exact ⟨chain HB4.out (HB7.out.setCell (by have := (HM7.out.own.lt g rfl).1; exact this) _), .inl ⟨HNZ.out, rfl⟩⟩
        · have hoff : s.on = false := by simpa using hon
          have HNE := hide (show ycE v s.v = 0 by rw [ycE, if_neg (show ¬s.v.on = true from hon)])
          have HNV := hide (show ycSc v s = s by rw [ycSc, if_neg hon])
          rw [hoff] at c2
          clear hon hoff
          go_wp2_with fail
          go_roundw
          case rel => exact ⟨i + 1, by omega, by go_num, by
              rw [HSU.out, HNV.out, set_self HCS.out]
              exact HMD2.out.below ((Below.refl _ _).alloc (Nat.le_refl _) _), by have := HERR.out; rw [HED.out, HNE.out, if_pos rfl] at this; exact this, HBW.out.alloc hsz _⟩
          case measure => simp [RowKit.intOf]; omega
      · obtain rfl : i = m := by omega
        have hE : E = 0 := by
          have := HERR.out
          rw [List.drop_eq_nil_of_le (by simp [HMM.out])] at this
          exact this.symm
        subst hE
        go_wp2_with fail
        go_ret2
        exact ⟨chain HB4.out HBW.out, .inr ⟨rfl, A5, cap5, curL v out i, by rw [curL_len, HMM.out]; rfl, HVE.out.symm, ⟨HMD2.out.own.mono (by have := HB4.out.size; omega), HMD2.out.sv, HMD2.out.ap⟩⟩⟩
end Go.Proofs.YtmfohnchnbgbaaaGreatDoor

/- Steps: whether one may be; its value on a day. -/
namespace Go.Proofs.YtmfohnchnbgbaaaGreatDoor
open Go.RowKit

def moneyS (v : Int) : Bool := decide (-4000000000000000000 ≤ v ∧ v ≤ 4000000000000000000)
theorem moneyS_any (v : Int) (w : World) : Calls Tryz.prog 156 #[.int .i64 v] w fun e w' => e = .returned (.bool (moneyS v)) ∧ w = w' := by
  go_enter Tryz.func156, Tryz.ntmps156
  go_wp2
  all_goals
    go_ret
    exact ⟨ret_bool (by rw [Bool.eq_iff_iff]; simp [moneyS]; try omega), rfl⟩
theorem moneyS_is {v : Int} {B : Bool} (h : moneyS v = B) (w : World) : Calls Tryz.prog 156 #[.int .i64 v] w fun e w' => e = .returned (.bool B) ∧ w = w' := by
  subst h; exact moneyS_any v w
theorem fullS_any (f t : Int) (w : World) :
    Calls Tryz.prog 131 #[.agg #[.int .i64 f, .int .i64 t]] w fun e w' => e = .returned (.bool (daysB f t)) ∧ Below w.heap.size w w' := by
  go_enter Tryz.func131, Tryz.ntmps131
  go_wp2
  all_goals
    go_ret
    exact ⟨ret_bool (by rw [Bool.eq_iff_iff]; simp [daysB]; omega), (Below.refl _ _).alloc (Nat.le_refl _) _⟩
theorem fullS_is {f t : Int} {B : Bool} (h : daysB f t = B) (w : World) :
    Calls Tryz.prog 131 #[.agg #[.int .i64 f, .int .i64 t]] w fun e w' => e = .returned (.bool B) ∧ Below w.heap.size w w' := by
  subst h; exact fullS_any f t w

/-- A step's places and values. -/
def okP (day val d x : Int) : Bool := decide (day < d ∧ d ≤ 292194 ∧ x ≠ val) && moneyS x
def rsG (day val : Int) : List Int → List Int → Bool
  | [], [] => true
  | d :: ds, x :: xs => okP day val d x && rsG d x ds xs
  | _, _ => false
def stepRB (a v : List Int) : Bool := rsG 0 0 a v
theorem rsG_len : ∀ {a v : List Int} {day val : Int}, rsG day val a v = true → a.length = v.length
  | [], [], _, _, _ => rfl
  | d :: ds, x :: xs, _, _, h => by
    rw [rsG, Bool.and_eq_true] at h
    rw [List.length_cons, List.length_cons, rsG_len h.2]
  | [], _ :: _, _, _, h => by cases h
  | _ :: _, [], _, _, h => by cases h
theorem stepRB_len {a v : List Int} (h : a.length ≠ v.length) : stepRB a v = false := by
  rw [Bool.eq_false_iff]; intro h2; exact h (rsG_len h2)

set_option maxRecDepth 100000 in
set_option maxHeartbeats 4000000 in
theorem stepR_any (A A2 : Option Addr) (n n2 cap cap2 : Nat) (a v : List Int) (w : World) (hs : SV w 1 A n cap (a.map encI)) (hs2 : SV w 1 A2 n2 cap2 (v.map encI)) :
    Calls Tryz.prog 130 #[.agg #[.slice A n cap, .slice A2 n2 cap2]] w fun e w' => e = .returned (.bool (stepRB a v)) ∧ Below w.heap.size w w' := by
  have hn : a.length = n := by have := hs.len; simpa using this
  have hn2 : v.length = n2 := by have := hs2.len; simpa using this
  have hle := hs.le
  have hmo := hs.most
  unfold maxLen at hmo
  by_cases hne : n = n2
  case neg =>
    have HF := hide (stepRB_len (show a.length ≠ v.length by omega))
    have hb : ((n : Int) != (n2 : Int)) = true := by simp; omega
    clear hn hn2 hs hs2
    go_enter Tryz.func130, Tryz.ntmps130
    go_wp2_with fail
    go_ret
    exact ⟨ret_bool HF.out.symm, (Below.refl _ _).alloc (Nat.le_refl _) _⟩
  subst hne
  have HN := hide hn
  have HN2 := hide hn2
  have HS := hide hs
  have HS2 := hide hs2
  obtain ⟨V, hV⟩ : ∃ V, stepRB a v = V := ⟨_, rfl⟩
  rw [hV]
  have HV := hide hV
  obtain ⟨w1, hw1⟩ : ∃ W, w.alloc (.cells #[.slice A n cap, .slice A2 n cap2] 127) = W := ⟨_, rfl⟩
  have hB : Blk w1 w.heap.size 127 #[.slice A n cap, .slice A2 n cap2] := by rw [← hw1]; exact Blk.new _ _ _
  have hb1 : Below w.heap.size w w1 := by rw [← hw1]; exact (Below.refl _ _).alloc (Nat.le_refl _) _
  have z0 := hB.cell 0
  have z1 := hB.cell 1
  simp at z0 z1
  have HW := hide hw1
  have H1 := hide hb1
  have HB := hide hB
  clear hn hn2 hs hs2 hV hw1 hB hb1
  go_enter Tryz.func130, Tryz.ntmps130
  go_upto_region 1 with fail
  rw [show w.alloc (.cells #[.slice A n cap, .slice A2 n cap2] 127) = w1 from HW.out]
  have hbn : ((n : Int) != (n : Int)) = false := by simp
  go_wp2_with fail
  go_loop [3, 4, 18] (fun p q i => ∃ (k : Nat) (day val : Int), k ≤ n ∧ i = .int .i64 k ∧ p = .int .i64 day ∧ q = .int .i64 val ∧ rsG day val (a.drop k) (v.drop k) = V) (fun _ _ i => n - (RowKit.intOf i).toNat)
  case atStart => exact ⟨0, 0, 0, Nat.zero_le _, rfl, rfl, rfl, HV.out⟩
  case round =>
    obtain ⟨k, day, val, hk, rfl, rfl, rfl, hr⟩ := hrel
    have HR := hide hr
    clear hr
    by_cases hlt : k < n
    · obtain ⟨d, hd⟩ := get_of (l := a) (k := k) (by rw [HN.out]; exact hlt)
      obtain ⟨x, hx⟩ := get_of (l := v) (k := k) (by rw [HN2.out]; exact hlt)
      obtain ⟨b, off, rfl, hbl, c0⟩ := (HS.out.below H1.out).sl.i hd
      obtain ⟨b', off', rfl, hbl', d0⟩ := (HS2.out.below H1.out).sl.i hx
      have HRD := hide (show rsG day val (a.drop k) (v.drop k) = (okP day val d x && rsG d x (a.drop (k + 1)) (v.drop (k + 1))) by rw [drop_of hd, drop_of hx, rsG])
      have hk0 : (0 : Int) ≤ (k : Int) := by omega
      have hk1 : (k : Int) < (n : Int) := by omega
      clear hd hx
      obtain ⟨B, hBm⟩ : ∃ B, moneyS x = B := ⟨_, rfl⟩
      have HBM := hide hBm
      clear hBm
      by_cases hbad : d ≤ day ∨ 292194 < d ∨ x = val
      · have HF := hide (show V = false by
          have := HR.out
          rw [HRD.out, okP, show decide (day < d ∧ d ≤ 292194 ∧ x ≠ val) = false by simp; omega] at this
          simpa using this.symm)
        rcases (show d ≤ day ∨ (¬ d ≤ day ∧ 292194 < d) ∨ (¬ d ≤ day ∧ ¬ 292194 < d ∧ x = val) by omega) with g | ⟨g1, g2⟩ | ⟨g1, g2, g3⟩
        · clear hbad
          go_wp2_with fail
          go_ret
          exact ⟨ret_bool HF.out.symm, H1.out⟩
        · clear hbad
          go_wp2_with fail
          go_ret
          exact ⟨ret_bool HF.out.symm, H1.out⟩
        · have g4 : (x == val) = true := by simpa using g3
          clear hbad g3
          go_wp2_with fail
          go_ret
          exact ⟨ret_bool HF.out.symm, H1.out⟩
      · have g1 : ¬ d ≤ day := by omega
        have g2 : ¬ 292194 < d := by omega
        have g4 : (x == val) = false := by simp; omega
        have HO := hide (show okP day val d x = B by rw [okP, HBM.out, show decide (day < d ∧ d ≤ 292194 ∧ x ≠ val) = true by simp; omega]; simp)
        clear hbad
        cases B
        · have HF := hide (show V = false by
            have := HR.out
            rw [HRD.out, HO.out] at this
            simpa using this.symm)
          go_wp2_with fail
          refine (moneyS_is HBM.out _).mono ?_
          rintro e w' ⟨rfl, rfl⟩
          go_wp2_with fail
          go_ret
          exact ⟨ret_bool HF.out.symm, H1.out⟩
        · go_wp2_with fail
          refine (moneyS_is HBM.out _).mono ?_
          rintro e w' ⟨rfl, rfl⟩
          go_wp2_with fail
          go_round
          case rel => exact ⟨k + 1, d, x, by omega, by go_num, rfl, rfl, by have := HR.out; rw [HRD.out, HO.out] at this; simpa using this⟩
          case measure => simp [RowKit.intOf]; omega
    · obtain rfl : k = n := by omega
      have HT := hide (show V = true by
        have := HR.out
        rw [List.drop_eq_nil_of_le (by rw [HN.out]; exact Nat.le_refl _), List.drop_eq_nil_of_le (by rw [HN2.out]; exact Nat.le_refl _)] at this
        exact this.symm)
      go_wp2_with fail
      go_ret
      exact ⟨ret_bool HT.out.symm, H1.out⟩
theorem stepR_is {A A2 : Option Addr} {n n2 cap cap2 : Nat} {a v : List Int} {B : Bool} (h : stepRB a v = B) (w : World) (hs : SV w 1 A n cap (a.map encI)) (hs2 : SV w 1 A2 n2 cap2 (v.map encI)) :
    Calls Tryz.prog 130 #[.agg #[.slice A n cap, .slice A2 n2 cap2]] w fun e w' => e = .returned (.bool B) ∧ Below w.heap.size w w' := by
  subst h; exact stepR_any A A2 n n2 cap cap2 a v w hs hs2

/-- How many are less, of a list that rises. -/
def Ris : List Int → Prop
  | [] => True
  | [_] => True
  | a :: b :: r => a < b ∧ Ris (b :: r)
theorem Ris.tail {a : Int} {l : List Int} (h : Ris (a :: l)) : Ris l := by
  cases l with
  | nil => trivial
  | cons b r => exact h.2
theorem Ris.lt_all : ∀ {l : List Int} {a : Int}, Ris (a :: l) → ∀ x ∈ l, a < x
  | [], _, _, x, hx => by simp at hx
  | b :: r, a, h, x, hx => by
    rcases List.mem_cons.1 hx with rfl | hx
    · exact h.1
    · exact Int.lt_trans h.1 (Ris.lt_all h.2 x hx)
theorem Ris.lt_at : ∀ {l : List Int} {i j : Nat} {x y : Int}, Ris l → l[i]? = some x → l[j]? = some y → i < j → x < y
  | [], i, j, x, y, _, h, _, _ => by simp at h
  | a :: r, 0, 0, x, y, _, _, _, hij => by omega
  | a :: r, 0, j + 1, x, y, h, hx, hy, _ => by
    simp at hx hy; subst hx
    exact h.lt_all y (List.mem_of_getElem? hy)
  | a :: r, i + 1, 0, x, y, _, _, _, hij => by omega
  | a :: r, i + 1, j + 1, x, y, h, hx, hy, hij => Ris.lt_at (l := r) h.tail (by simpa using hx) (by simpa using hy) (by omega)
def bsI (t : Int) : List Int → Nat
  | [] => 0
  | a :: r => if a < t then bsI t r + 1 else 0
theorem bsI_eq : ∀ {l : List Int} {t : Int} {i : Nat}, i ≤ l.length → (∀ k x, k < i → l[k]? = some x → x < t) → (∀ x, l[i]? = some x → t ≤ x) → bsI t l = i
  | [], t, i, hi, _, _ => by simp at hi; subst hi; rfl
  | a :: r, t, 0, _, _, h2 => by
    have := h2 a rfl
    rw [bsI, if_neg (by omega)]
  | a :: r, t, i + 1, hi, h1, h2 => by
    have := h1 0 a (by omega) rfl
    rw [bsI, if_pos this, bsI_eq (l := r) (i := i) (by simpa using hi) (fun k x hk hx => h1 (k + 1) x (by omega) (by simpa using hx)) (fun x hx => h2 x (by simpa using hx))]
theorem isNan_any (n : Int) (w : World) : Calls Tryz.prog 178 #[.int .i64 n] w fun e w' => e = .returned (.bool false) ∧ w = w' := by
  go_enter Tryz.func178, Tryz.ntmps178
  go_wp2
  all_goals
    go_ret
    exact ⟨rfl, rfl⟩
def fndB (t : Int) (l : List Int) : Bool := l[bsI t l]? == some t

set_option maxRecDepth 100000 in
set_option maxHeartbeats 4000000 in
theorem bs_any (A : Option Addr) (n cap : Nat) (l : List Int) (t : Int) (w : World) (hs : SV w 1 A n cap (l.map encI)) (hr : Ris l) (hn62 : n ≤ 1000000) :
    Calls Tryz.prog 173 #[.slice A n cap, .int .i64 t] w fun e w' => e = .returned (.tuple #[.int .i64 (bsI t l : Nat), .bool (fndB t l)]) ∧ w = w' := by
  have hn : l.length = n := by have := hs.len; simpa using this
  have HN := hide hn
  have HS := hide hs
  have HR := hide hr
  clear hn hs hr
  go_enter Tryz.func173, Tryz.ntmps173
  go_wp2_with fail
  go_loop [7, 8] (fun p q => ∃ i j : Nat, p = .int .i64 i ∧ q = .int .i64 j ∧ i ≤ j ∧ j ≤ n ∧ (∀ k x, k < i → l[k]? = some x → x < t) ∧ (∀ x, l[j]? = some x → t ≤ x)) (fun p q => (RowKit.intOf q - RowKit.intOf p).toNat)
  case atStart => exact ⟨0, n, rfl, rfl, Nat.zero_le _, Nat.le_refl _, fun k x hk => by omega, fun x hx => by have := lt_of_get hx; rw [HN.out] at this; omega⟩
  case round =>
    obtain ⟨i, j, rfl, rfl, hij, hjn, h1, h2⟩ := hrel
    have HL1 := hide h1
    have HL2 := hide h2
    clear h1 h2
    by_cases hlt : i < j
    · obtain ⟨m, hm⟩ : ∃ m, (i + j) / 2 = m := ⟨_, rfl⟩
      have hm1 : i ≤ m := by omega
      have hm2 : m < j := by omega
      obtain ⟨x, hx⟩ := get_of (l := l) (k := m) (by rw [HN.out]; omega)
      obtain ⟨b, off, rfl, hbl, c0⟩ := HS.out.sl.i hx
      have HX := hide hx
      have HM := hide hm
      clear hx
      by_cases hxt : x < t
      · have hd : decide (x < t) = true := by simpa using hxt
        go_wp2_with fail
        refine (less_any x t _).mono ?_
        rintro e w' ⟨rfl, rfl⟩
        rw [hd]
        go_wp2_with fail
        go_round
        case rel => exact ⟨m + 1, j, by simp; omega, rfl, by omega, hjn, fun k y hk hy => by
          rcases Nat.lt_or_ge k m with h | h
          · have := HR.out.lt_at hy HX.out h
            omega
          · obtain rfl : k = m := by omega
            rw [HX.out] at hy; cases hy; exact hxt, HL2.out⟩
        case measure => simp [RowKit.intOf]; omega
      · have hd : decide (x < t) = false := by simpa using hxt
        go_wp2_with fail
        refine (less_any x t _).mono ?_
        rintro e w' ⟨rfl, rfl⟩
        rw [hd]
        go_wp2_with fail
        go_round
        case rel => exact ⟨i, m, rfl, by simp; omega, hm1, by omega, HL1.out, fun y hy => by rw [HX.out] at hy; cases hy; omega⟩
        case measure => simp [RowKit.intOf]; omega
    · obtain rfl : i = j := by omega
      have HB := hide (bsI_eq (l := l) (t := t) (i := i) (by rw [HN.out]; exact hjn) HL1.out HL2.out)
      by_cases hin : i < n
      · obtain ⟨x, hx⟩ := get_of (l := l) (k := i) (by rw [HN.out]; exact hin)
        obtain ⟨b, off, rfl, hbl, c0⟩ := HS.out.sl.i hx
        have hk0 : (0 : Int) ≤ (i : Int) := by omega
        have hk1 : (i : Int) < (n : Int) := by omega
        have HF := hide (show fndB t l = (x == t) by rw [fndB, HB.out, hx]; rfl)
        clear hx
        by_cases hxt : x = t
        · have hq : (x == t) = true := by simpa using hxt
          rw [hq] at HF
          clear hxt
          go_wp2_with fail
          go_ret2
          rw [HB.out, HF.out]
          exact ⟨rfl, rfl⟩
        · have hq : (x == t) = false := by simpa using hxt
          rw [hq] at HF
          clear hxt
          go_wp2_with fail
          refine (isNan_any x _).mono ?_
          rintro e w' ⟨rfl, rfl⟩
          go_wp2_with fail
          go_ret2
          rw [HB.out, HF.out]
          exact ⟨rfl, rfl⟩
      · obtain rfl : i = n := by omega
        have HF := hide (show fndB t l = false by rw [fndB, HB.out, List.getElem?_eq_none (by rw [HN.out]; exact Nat.le_refl _)]; rfl)
        go_wp2_with fail
        go_ret2
        rw [HB.out, HF.out]
        exact ⟨rfl, rfl⟩
end Go.Proofs.YtmfohnchnbgbaaaGreatDoor

/- A step's value on a day. -/
namespace Go.Proofs.YtmfohnchnbgbaaaGreatDoor
open Go.RowKit

/-- The value of the last place that is not behind a day. -/
def valI (t : Int) : Int → List Int → List Int → Int
  | acc, d :: ds, x :: xs => if d ≤ t then valI t x ds xs else acc
  | acc, _, _ => acc
theorem rsG_ris : ∀ {a v : List Int} {day val : Int}, rsG day val a v = true → Ris (day :: a)
  | [], [], _, _, _ => trivial
  | d :: ds, x :: xs, day, val, h => by
    rw [rsG, Bool.and_eq_true, okP, Bool.and_eq_true, decide_eq_true_eq] at h
    exact ⟨h.1.1.1, rsG_ris h.2⟩
  | [], _ :: _, _, _, h => by cases h
  | _ :: _, [], _, _, h => by cases h
theorem valI_hi : ∀ {a v : List Int} {t acc : Int}, (∀ x ∈ a, t < x) → valI t acc a v = acc
  | [], v, _, _, _ => by cases v <;> rfl
  | d :: ds, [], _, _, _ => rfl
  | d :: ds, x :: xs, t, acc, h => by
    have := h d (by simp)
    rw [valI, if_neg (by omega)]
theorem valI_eq : ∀ {a v : List Int} {t acc : Int}, Ris a → a.length = v.length → valI t acc a v = if fndB t a = true then (v[bsI t a]?).getD 0 else if bsI t a = 0 then acc else (v[bsI t a - 1]?).getD 0
  | [], [], t, acc, _, _ => by simp [valI, bsI, fndB]
  | [], _ :: _, _, _, _, h => by simp at h
  | _ :: _, [], _, _, _, h => by simp at h
  | d :: ds, x :: xs, t, acc, hr, hl => by
    rw [valI]
    rcases Int.lt_trichotomy d t with h | h | h
    · rw [if_pos (by omega), valI_eq hr.tail (by simpa using hl)]
      have hb : bsI t (d :: ds) = bsI t ds + 1 := by rw [bsI, if_pos h]
      have hf : fndB t (d :: ds) = fndB t ds := by rw [fndB, fndB, hb]; simp
      rw [hb, hf]
      by_cases hq : fndB t ds = true
      · rw [if_pos hq, if_pos hq]; simp
      · rw [if_neg hq, if_neg hq, if_neg (show ¬bsI t ds + 1 = 0 by omega)]
        by_cases h0 : bsI t ds = 0
        · rw [if_pos h0, h0]; simp
        · rw [if_neg h0]
          obtain ⟨m, hm⟩ : ∃ m, bsI t ds = m + 1 := ⟨bsI t ds - 1, by omega⟩
          rw [hm]; simp
    · have hb : bsI t (d :: ds) = 0 := by rw [bsI, if_neg (by omega)]
      have hf : fndB t (d :: ds) = true := by rw [fndB, hb]; simp [h]
      rw [if_pos (by omega), if_pos hf, hb, valI_hi (fun y hy => by have := hr.lt_all y hy; omega)]
      simp
    · have hb : bsI t (d :: ds) = 0 := by rw [bsI, if_neg (by omega)]
      have hf : ¬fndB t (d :: ds) = true := by rw [fndB, hb]; simp; omega
      rw [if_neg (by omega), if_neg hf, if_pos hb]
theorem bsI_le : ∀ (t : Int) (l : List Int), bsI t l ≤ l.length
  | _, [] => Nat.le_refl _
  | t, a :: r => by
    rw [bsI, List.length_cons]
    have := bsI_le t r
    split <;> omega

set_option maxHeartbeats 2000000 in
theorem value_any (A A2 : Option Addr) (n cap cap2 : Nat) (a v : List Int) (t : Int) (w : World) (hs : SV w 1 A n cap (a.map encI)) (hs2 : SV w 1 A2 n cap2 (v.map encI)) (hr : stepRB a v = true) (hn6 : n ≤ 1000000) :
    Calls Tryz.prog 158 #[.agg #[.slice A n cap, .slice A2 n cap2], .int .i64 t] w fun e w' => e = .returned (.int .i64 (valI t 0 a v)) ∧ Below w.heap.size w w' := by
  have hn : a.length = n := by have := hs.len; simpa using this
  have hn2 : v.length = n := by have := hs2.len; simpa using this
  have hri : Ris a := (rsG_ris hr).tail
  obtain ⟨V, hV⟩ : ∃ V, valI t 0 a v = V := ⟨_, rfl⟩
  have HVE := hide (valI_eq (t := t) (acc := 0) hri (hn.trans hn2.symm))
  rw [hV] at HVE ⊢
  have hble := bsI_le t a
  obtain ⟨i, hi⟩ : ∃ i, bsI t a = i := ⟨_, rfl⟩
  obtain ⟨B, hB⟩ : ∃ B, fndB t a = B := ⟨_, rfl⟩
  have HFB := hide hB
  have HFI := hide hi
  rw [hi, hn] at hble
  rw [hi, hB] at HVE
  obtain ⟨w1, hw1⟩ : ∃ W, w.alloc (.cells #[.slice A n cap, .slice A2 n cap2] 127) = W := ⟨_, rfl⟩
  have hBl : Blk w1 w.heap.size 127 #[.slice A n cap, .slice A2 n cap2] := by rw [← hw1]; exact Blk.new _ _ _
  have hb1 : Below w.heap.size w w1 := by rw [← hw1]; exact (Below.refl _ _).alloc (Nat.le_refl _) _
  have HBS := hide (bs_any A n cap a t w1 (hs.below hb1) hri hn6)
  rw [hi, hB] at HBS
  have z0 := hBl.cell 0
  have z1 := hBl.cell 1
  simp at z0 z1
  have HW := hide hw1
  have H1 := hide hb1
  have HN := hide hn
  have HN2 := hide hn2
  have HS2 := hide (hs2.below hb1)
  have hle2 := hs2.le
  clear hn hn2 hs hs2 hr hri hV hi hB hw1 hBl hb1
  go_enter Tryz.func158, Tryz.ntmps158
  go_wp2_with fail
  rw [show w.alloc (.cells #[.slice A n cap, .slice A2 n cap2] 127) = w1 from HW.out]
  refine HBS.out.mono ?_
  rintro e w' ⟨rfl, rfl⟩
  cases B
  · rcases (show i = 0 ∨ 0 < i by omega) with rfl | hpos
    · have hV : V = 0 := by have := HVE.out; simpa using this
      subst hV
      go_wp2_with fail
      go_ret
      exact ⟨rfl, H1.out⟩
    · obtain ⟨j, rfl⟩ : ∃ j, i = j + 1 := ⟨i - 1, by omega⟩
      obtain ⟨x, hx⟩ := get_of (l := v) (k := j) (by rw [HN2.out]; omega)
      have hV : V = x := by have := HVE.out; simpa [hx] using this
      subst hV
      obtain ⟨b, off, rfl, hbl, c0⟩ := HS2.out.sl.i hx
      have hk0 : (0 : Int) ≤ (j : Int) := by omega
      have hk1 : (j : Int) < (n : Int) := by omega
      clear hx
      go_wp2_with fail
      go_ret
      exact ⟨rfl, H1.out⟩
  · have hin : i < n := by
      have := HFB.out
      rw [fndB, HFI.out] at this
      have h2 : a[i]? = some t := by simpa using this
      have := lt_of_get h2
      rw [HN.out] at this
      exact this
    obtain ⟨x, hx⟩ := get_of (l := v) (k := i) (by rw [HN2.out]; omega)
    have hV : V = x := by have := HVE.out; simpa [hx] using this
    subst hV
    obtain ⟨b, off, rfl, hbl, c0⟩ := HS2.out.sl.i hx
    have hk0 : (0 : Int) ≤ (i : Int) := by omega
    have hk1 : (i : Int) < (n : Int) := by omega
    clear hx
    go_wp2_with fail
    go_ret
    exact ⟨rfl, H1.out⟩
end Go.Proofs.YtmfohnchnbgbaaaGreatDoor

/- The pieces of a step: the iterator. -/
namespace Go.Proofs.YtmfohnchnbgbaaaGreatDoor
open Go.RowKit Go.Shelf
attribute [local go_sem] Oper.semAt_some

/-- A piece: its span, its value. -/
def okPc (p : Int × Int × Int) : Prop := 1 ≤ p.1 ∧ p.1 < p.2.1 ∧ p.2.1 ≤ 292195 ∧ -4000000000000000000 ≤ p.2.2 ∧ p.2.2 ≤ 4000000000000000000
abbrev Pc := { p : Int × Int × Int // okPc p }
def encPc (p : Pc) : Array Value := #[.agg #[.int .i64 p.1.1, .int .i64 p.1.2.1], .int .i64 p.1.2.2]
/-- The pieces from a day on, of the places that are left. -/
def pcL (a v : List Int) (t : Int) : Int → List Int → List (Int × Int × Int)
  | f, [] => [(f, t, valI f 0 a v)]
  | f, d :: r => if d ≤ f ∨ t ≤ d then pcL a v t f r else (f, d, valI f 0 a v) :: pcL a v t d r
theorem valI_bd : ∀ {a v : List Int} {t acc day val : Int}, rsG day val a v = true → -4000000000000000000 ≤ acc ∧ acc ≤ 4000000000000000000 → -4000000000000000000 ≤ valI t acc a v ∧ valI t acc a v ≤ 4000000000000000000
  | [], v, _, _, _, _, _, h => by cases v <;> exact h
  | d :: ds, [], _, _, _, _, _, h => h
  | d :: ds, x :: xs, t, acc, day, val, hr, h => by
    rw [rsG, Bool.and_eq_true, okP, Bool.and_eq_true] at hr
    rw [valI]
    split
    · exact valI_bd hr.2 (by have := hr.1.2; simpa [moneyS] using this)
    · exact h
theorem pcL_ok {a v : List Int} (hr : stepRB a v = true) {t : Int} (ht : t ≤ 292195) : ∀ {r : List Int} {f : Int}, 1 ≤ f → f < t → ∀ p ∈ pcL a v t f r, okPc p
  | [], f, h1, h2, p, hp => by
    simp [pcL] at hp; subst hp
    exact ⟨h1, h2, ht, (valI_bd hr (by omega)).1, (valI_bd hr (by omega)).2⟩
  | d :: r, f, h1, h2, p, hp => by
    rw [pcL] at hp
    split at hp
    · exact pcL_ok hr ht h1 h2 p hp
    · rcases List.mem_cons.1 hp with rfl | hp
      · exact ⟨h1, by simp; omega, by simp; omega, (valI_bd hr (by omega)).1, (valI_bd hr (by omega)).2⟩
      · exact pcL_ok hr ht (by omega) (by omega) p hp
theorem pcs_of : ∀ {l : List (Int × Int × Int)}, (∀ p ∈ l, okPc p) → ∃ zs : List Pc, zs.map Subtype.val = l
  | [], _ => ⟨[], rfl⟩
  | p :: r, h => by
    obtain ⟨zs, hz⟩ := pcs_of (l := r) (fun q hq => h q (by simp [hq]))
    exact ⟨⟨p, h p (by simp)⟩ :: zs, by rw [List.map_cons, hz]⟩
theorem pcL_len (a v : List Int) (t : Int) : ∀ (r : List Int) (f : Int), (pcL a v t f r).length ≤ r.length + 1
  | [], _ => Nat.le_refl _
  | d :: r, f => by
    rw [pcL]
    split
    · have := pcL_len a v t r f; simp; omega
    · have := pcL_len a v t r d; simp; omega

/-- What a round keeps: all below B0, and the two boxes. -/
structure KpS (B0 Bs Bf : Nat) (W W' : World) : Prop where
  b : Below B0 W W'
  s : W'.heap[Bs]? = W.heap[Bs]?
  f : W'.heap[Bf]? = W.heap[Bf]?
theorem KpS.refl (B0 Bs Bf : Nat) (W : World) : KpS B0 Bs Bf W W := ⟨Below.refl _ _, rfl, rfl⟩
theorem KpS.trans {B0 Bs Bf : Nat} {A B C : World} (h : KpS B0 Bs Bf A B) (k : KpS B0 Bs Bf B C) : KpS B0 Bs Bf A C := ⟨h.b.trans k.b, k.s.trans h.s, k.f.trans h.f⟩
theorem KpS.below {B0 Bs Bf : Nat} {W W' : World} (h : Below W.heap.size W W') (h0 : B0 ≤ W.heap.size) (h1 : Bs < W.heap.size) (h2 : Bf < W.heap.size) : KpS B0 Bs Bf W W' := ⟨h.mono h0, h.block _ h1, h.block _ h2⟩
theorem KpS.put {B0 Bs Bf : Nat} {w : World} (h0 : B0 ≤ w.heap.size) (h1 : Bs < w.heap.size) (h2 : Bf < w.heap.size) (W : World) (l : Nat) (o o' : Obj) (hl : w.heap.size ≤ l) (h : W.heap[l]? = some o) (hc : o.isCells = false) (hw : o.isWalk = false) : KpS B0 Bs Bf W (W.putObj l o') := by
  have hlt := (Array.getElem?_eq_some_iff.1 h).1
  have hg := grownBy_putObj' W l o'
  exact ⟨belowK_b h0 W l o o' hl h hc hw, hg.block Bs (by omega) (fun e => by cases e; omega), hg.block Bf (by omega) (fun e => by cases e; omega)⟩
theorem heap_cell {W W' : World} {b o : Nat} (h : W'.heap[b]? = W.heap[b]?) : W'.cell? ⟨b, o, none⟩ = W.cell? ⟨b, o, none⟩ := by
  simp only [World.cell?, h]
theorem abides_below {β : Type} {B : Nat} {J : β → World → Prop} (hJ : AbidesFrom B J) {s : β} {W W' : World} (h : J s W) (hb : Below W.heap.size W W') : J s W' := hJ s W W' none h (grown_of_below hb none) (fun r e => by cases e)

theorem yield_b {e : Ending} {p q : Prop} (h : (e = .returned (.bool true) ∧ p) ∨ (e = .returned (.bool false) ∧ q)) : ∃ b, e = .returned (.bool b) ∧ ((b = true ∧ p) ∨ (b = false ∧ q)) := by
  rcases h with ⟨h1, h2⟩ | ⟨h1, h2⟩
  · exact ⟨true, h1, .inl ⟨rfl, h2⟩⟩
  · exact ⟨false, h1, .inr ⟨rfl, h2⟩⟩
set_option maxRecDepth 100000 in
set_option maxHeartbeats 8000000 in
theorem pieces1_in (n : Nat) (hn : 1 ≤ n) (w0 W : World) (l Bs Bf n0 m cap cap2 : Nat) (A A2 : Option Addr) (a v : List Int) (f t : Int) (zs : List Pc) (hz : zs.map Subtype.val = pcL a v t f a) (J Jx : List Pc → World → Prop)
    (hs : SV w0 1 A m cap (a.map encI)) (hs2 : SV w0 1 A2 m cap2 (v.map encI)) (hr : stepRB a v = true) (hm6 : m ≤ 1000000) (hn0 : w0.heap.size ≤ n0) (hnW : n0 ≤ W.heap.size) (hBs0 : Bs < W.heap.size) (hBf0 : Bf < W.heap.size)
    (hJ : ∀ s W W', J s W → Below W.heap.size W W' → J s W')
    (hY : ∀ pre x W, J pre W → pre.length < m + 1 → YieldAt Fence.wide (n - 1) Tryz.prog l (encPc x) W fun e W' =>
      (e = .returned (.bool true) ∧ J (pre ++ [x]) W' ∧ KpS n0 Bs Bf W W') ∨ (e = .returned (.bool false) ∧ Jx (pre ++ [x]) W'))
    (hBs : W.cell? ⟨Bs, 0, none⟩ = some (.int .i64 f) ∧ W.cell? ⟨Bs, 1, none⟩ = some (.int .i64 t)) (hBf : W.cell? ⟨Bf, 0, none⟩ = some (.slice A m cap) ∧ W.cell? ⟨Bf, 1, none⟩ = some (.slice A2 m cap2)) (hW : Below w0.heap.size w0 W) (h0 : J [] W) :
    CallsIn Fence.wide n Tryz.prog 157 #[.func (.yield l) #[] #[], .pointer (some ⟨Bs, 0, none⟩), .pointer (some ⟨Bf, 0, none⟩)] W fun e W' => (∃ v, e = .returned v) ∧
      ((∃ ys, ys = zs ∧ J ys W') ∨ (∃ pre, (∃ k, k ≤ zs.length ∧ pre = zs.take k) ∧ Jx pre W')) := by
  have hmx := hs.le
  have hmy := hs.most
  unfold maxLen at hmy
  have hma : a.length = m := by have := hs.len; simpa using this
  have HMA := hide hma
  have HS := hide hs
  have HS2 := hide hs2
  have HR := hide hr
  have HZ := hide hz
  have HW := hide hW
  have HJ := hide hJ
  clear hs hs2 hr hz hW hJ hma
  obtain ⟨hBs1, hBs2⟩ := hBs
  obtain ⟨hBf1, hBf2⟩ := hBf
  refine callsIn_of_wp Tryz.func157 rfl trivial ?_ rfl
  simp only [Tryz.ntmps157, List.size_toArray, List.length_cons, List.length_nil, Nat.reduceAdd, Nat.reduceSub, Array.replicate_succ, Array.replicate_zero, List.push_toArray, List.append_toArray, List.nil_append, List.cons_append]
  gi_wp2
  gi_loopw [4, 12] (fun q i wr => ∃ (k g : Nat) (fr : Int), k ≤ m ∧ i = .int .i64 k ∧ q = .int .i64 fr ∧ (zs.drop g).map Subtype.val = pcL a v t fr (a.drop k) ∧ g ≤ k ∧ J (zs.take g) wr ∧ KpS n0 Bs Bf W wr) (fun _ i _ => m - (intOf i).toNat)
  case atStart => exact ⟨0, 0, f, Nat.zero_le _, rfl, rfl, HZ.out, Nat.le_refl _, h0, KpS.refl _ _ _ _⟩
  case round =>
    obtain ⟨k, g, fr, hk, rfl, rfl, hpc, hgk, hJs, hnx⟩ := hrel
    have b1 : (wr : World).cell? ⟨Bs, 1, none⟩ = some (.int .i64 t) := (heap_cell hnx.s).trans hBs2
    have b2 : (wr : World).cell? ⟨Bf, 0, none⟩ = some (.slice A m cap) := (heap_cell hnx.f).trans hBf1
    have b3 : (wr : World).cell? ⟨Bf, 1, none⟩ = some (.slice A2 m cap2) := (heap_cell hnx.f).trans hBf2
    have HPC := hide hpc
    have HJS := hide hJs
    have HNX := hide hnx
    clear hpc hJs
    have HSr := hide (HS.out.below (HW.out.trans (hnx.b.mono hn0)))
    have HSr2 := hide (HS2.out.below (HW.out.trans (hnx.b.mono hn0)))
    by_cases hlt : k < m
    · obtain ⟨d, hd⟩ := get_of (l := a) (k := k) (by rw [HMA.out]; exact hlt)
      obtain ⟨b, off, rfl, hbl, c0⟩ := HSr.out.sl.i hd
      have hk0 : (0 : Int) ≤ (k : Int) := by omega
      have hk1 : (k : Int) < (m : Int) := by omega
      have HD := hide (drop_of hd)
      clear hd
      by_cases hsk : d ≤ fr ∨ t ≤ d
      · have HP2 := hide (show (zs.drop g).map Subtype.val = pcL a v t fr (a.drop (k + 1)) by rw [HPC.out, HD.out, pcL, if_pos hsk])
        rcases (show d ≤ fr ∨ (¬ d ≤ fr ∧ t ≤ d) by omega) with h1 | ⟨h1, h2⟩
        all_goals
          clear hsk
          gi_wp2
          go_roundw
          case rel => exact ⟨k + 1, g, fr, by omega, by go_num, rfl, HP2.out, by omega, HJS.out, HNX.out⟩
          case measure => simp [intOf]; omega
      · have h1 : ¬ d ≤ fr := by omega
        have h2 : ¬ t ≤ d := by omega
        have hp := HPC.out
        rw [HD.out, pcL, if_neg hsk] at hp
        obtain ⟨z, hz⟩ : ∃ z, zs[g]? = some z := by
          cases hq : zs[g]? with
          | some z => exact ⟨z, rfl⟩
          | none =>
            rw [List.drop_eq_nil_of_le (List.getElem?_eq_none_iff.1 hq)] at hp
            cases hp
        rw [drop_of hz, List.map_cons] at hp
        obtain ⟨hz1, hz2⟩ := List.cons.inj hp
        have HZ1 := hide hz1
        have HZ2 := hide hz2
        have HZT := hide (take_of hz)
        have hzl := lt_of_get hz
        clear hsk hp hz1 hz2 hz
        gi_wp2
        refine ⟨trivial, ?_⟩
        refine (callsIn_wide.2 (value_any _ _ m cap cap2 a v fr wr HSr.out HSr2.out HR.out hm6)).mono ?_
        rintro e W3 ⟨rfl, hb3⟩
        have hJ3 := HJ.out _ _ _ HJS.out hb3
        have HB3 := hide hb3
        obtain ⟨fn, tmps, assign, body, hy, hR⟩ := hY _ z W3 hJ3 (by rw [List.length_take]; omega)
        dsimp only [encPc] at hy
        rw [HZ1.out] at hy
        dsimp only at hy
        clear hb3 hJ3
        gi_wp2
        refine hR.mono ?_
        rintro e W4 (⟨rfl, hJ4, hk4⟩ | ⟨rfl, hJx4⟩)
        · rw [← HZT.out] at hJ4
          have HJ4 := hide hJ4
          clear hJ4 c0 hy hR
          gi_wp2
          go_roundw
          case rel => exact ⟨k + 1, g + 1, d, by omega, by go_num, rfl, HZ2.out, by omega, HJ4.out, (HNX.out.trans (KpS.below HB3.out (by have := HNX.out.b.size; omega) (by have := HNX.out.b.size; omega) (by have := HNX.out.b.size; omega))).trans hk4⟩
          case measure => simp [intOf]; omega
        · rw [← HZT.out] at hJx4
          have HJ4 := hide hJx4
          clear hJx4 c0 hy hR
          gi_wp2
          refine bodyPost_ret (results_none rfl _ _ _) rfl ?_
          exact ⟨⟨_, rfl⟩, .inr ⟨_, ⟨g + 1, by omega, rfl⟩, HJ4.out⟩⟩
    · obtain rfl : k = m := by omega
      have hp := HPC.out
      rw [List.drop_eq_nil_of_le (show a.length ≤ k by rw [HMA.out]; exact Nat.le_refl _), pcL] at hp
      obtain ⟨z, hz⟩ : ∃ z, zs[g]? = some z := by
        cases hq : zs[g]? with
        | some z => exact ⟨z, rfl⟩
        | none =>
          rw [List.drop_eq_nil_of_le (List.getElem?_eq_none_iff.1 hq)] at hp
          cases hp
      rw [drop_of hz, List.map_cons] at hp
      obtain ⟨hz1, hz2⟩ := List.cons.inj hp
      have hzg : zs.take (g + 1) = zs := List.take_of_length_le (by
        have : (zs.drop (g + 1)).length = 0 := by rw [← List.length_map (f := Subtype.val), hz2]; rfl
        rw [List.length_drop] at this
        omega)
      have HZ1 := hide hz1
      have HZT := hide (take_of hz)
      have HZG := hide hzg
      clear hp hz1 hz2 hz hzg
      gi_wp2
      gi_region_with (first
        | (refine ⟨trivial, ?_⟩
           gi_at_call 158
           refine (callsIn_wide.2 (value_any _ _ k cap cap2 a v fr _ (HSr.out.below (Below.refl _ _).drew) (HSr2.out.below (Below.refl _ _).drew) HR.out hm6)).mono ?_
           rintro e W3 ⟨rfl, hb3⟩
           have hb4 := bel_undrew hb3
           have d1 := kept hb4 b1
           have hJ3 := HJ.out _ _ _ HJS.out hb4
           have hYY := hY _ z W3 hJ3 (by rw [List.length_take]; omega)
           obtain ⟨fn, tmps, assign, body, hy, hR⟩ := hYY
           dsimp only [encPc] at hy
           rw [HZ1.out] at hy
           dsimp only at hy
           clear hb3 hb4 hJ3)
        | (refine hR.mono ?_
           intro e W4 hor
           obtain ⟨bb, rfl, hor2⟩ := yield_b hor
           have HOR := hide hor2
           clear hor hor2))
      all_goals
        gi_wp2
        go_end0
        have hor := HOR.out
        rw [← HZT.out, HZG.out] at hor
        refine ⟨⟨_, rfl⟩, ?_⟩
        rcases hor with ⟨_, h1, _⟩ | ⟨_, h1⟩
        · exact .inl ⟨zs, rfl, h1⟩
        · exact .inr ⟨zs, ⟨zs.length, Nat.le_refl _, List.take_length.symm⟩, h1⟩
theorem pieces_in (n : Nat) (f t : Int) (A A2 : Option Addr) (m m2 cap cap2 : Nat) (w : World) :
    CallsIn Fence.wide n Tryz.prog 132 #[.agg #[.slice A m cap, .slice A2 m2 cap2], .agg #[.int .i64 f, .int .i64 t]] w fun e w' => e = .returned (.func (.func 157) #[] #[.pointer (some ⟨w.heap.size + 1, 0, none⟩), .pointer (some ⟨w.heap.size, 0, none⟩)]) ∧ w' = (w.alloc (.cells #[.slice A m cap, .slice A2 m2 cap2] 127)).alloc (.cells #[.int .i64 f, .int .i64 t] 56) := by
  have hmf : ∀ (fn : Fn) (first cap : Array Value) (w : World), (Instr.makeFunc fn first cap).run Tryz.prog w = .ok (.func fn first cap) w := fun _ _ _ _ => rfl
  refine callsIn_of_wp Tryz.func132 rfl trivial ?_ rfl
  simp only [Tryz.ntmps132, List.size_toArray, List.length_cons, List.length_nil, Nat.reduceAdd, Nat.reduceSub, Array.replicate_succ, Array.replicate_zero, List.push_toArray, List.append_toArray, List.nil_append, List.cons_append]
  gi_wp2
  go_ret
  exact ⟨rfl, rfl⟩
theorem pieces_stops (n : Nat) (hn : 1 ≤ n) (w0 : World) (Bs Bf n0 m cap cap2 : Nat) (A A2 : Option Addr) (a v : List Int) (f t : Int) (zs : List Pc) (hz : zs.map Subtype.val = pcL a v t f a)
    (hs : SV w0 1 A m cap (a.map encI)) (hs2 : SV w0 1 A2 m cap2 (v.map encI)) (hr : stepRB a v = true) (hm6 : m ≤ 1000000) (hn0 : w0.heap.size ≤ n0)
    (w : World) (hBs0 : Bs < w.heap.size) (hBf0 : Bf < w.heap.size) (hnw : n0 ≤ w.heap.size) (hBs : w.cell? ⟨Bs, 0, none⟩ = some (.int .i64 f) ∧ w.cell? ⟨Bs, 1, none⟩ = some (.int .i64 t)) (hBf : w.cell? ⟨Bf, 0, none⟩ = some (.slice A m cap) ∧ w.cell? ⟨Bf, 1, none⟩ = some (.slice A2 m cap2)) (hw : Below w0.heap.size w0 w) :
    SeqStopsK Fence.wide n Tryz.prog 157 #[.pointer (some ⟨Bs, 0, none⟩), .pointer (some ⟨Bf, 0, none⟩)] encPc (KpS n0 Bs Bf) (fun ys => ys = zs) (fun pre => ∃ k, k ≤ zs.length ∧ pre = zs.take k) (m + 1) w := fun l J Jx W hW hJ _ hY h0 =>
  pieces1_in n hn w0 W l Bs Bf n0 m cap cap2 A A2 a v f t zs hz J Jx hs hs2 hr hm6 hn0 (by have := hW.size; omega) (by have := hW.size; omega) (by have := hW.size; omega) (fun s W1 W2 h1 h2 => abides_below hJ h1 h2) hY
    ⟨(hW.cell (p := ⟨Bs, 0, none⟩) (by simp only; omega)).trans hBs.1, (hW.cell (p := ⟨Bs, 1, none⟩) (by simp only; omega)).trans hBs.2⟩ ⟨(hW.cell (p := ⟨Bf, 0, none⟩) (by simp only; omega)).trans hBf.1, (hW.cell (p := ⟨Bf, 1, none⟩) (by simp only; omega)).trans hBf.2⟩ (chain hw hW) h0
end Go.Proofs.YtmfohnchnbgbaaaGreatDoor

/- What a step's values are together. -/
namespace Go.Proofs.YtmfohnchnbgbaaaGreatDoor
open Go.RowKit Go.Shelf
attribute [local go_sem] Oper.semAt_some

def sumG : List (Int × Int × Int) → Int → Int → Int × Int
  | [], s, _ => (s, 0)
  | (p, q, v) :: r, s, al => if (4000000000000000000 - al) / (q - p) < max v (-v) then (0, 5) else sumG r (s + (q - p) * v) (al + (q - p) * max v (-v))
def stepS (st : Option (Int × Int)) (x : Pc) : Option (Int × Int) :=
  match st with
  | none => none
  | some (s, al) => if (4000000000000000000 - al) / (x.1.2.1 - x.1.1) < max x.1.2.2 (-x.1.2.2) then none else some (s + (x.1.2.1 - x.1.1) * x.1.2.2, al + (x.1.2.1 - x.1.1) * max x.1.2.2 (-x.1.2.2))
def runS (l : List Pc) : Option (Int × Int) := l.foldl stepS (some (0, 0))
theorem fold_none : ∀ (l : List Pc), l.foldl stepS none = none
  | [] => rfl
  | _ :: r => fold_none r
theorem sumG_run : ∀ (l : List Pc) (s al : Int), sumG (l.map Subtype.val) s al = match l.foldl stepS (some (s, al)) with | some (s', _) => (s', 0) | none => (0, 5)
  | [], _, _ => rfl
  | x :: r, s, al => by
    rw [List.map_cons, List.foldl_cons, show x.val = (x.1.1, x.1.2.1, x.1.2.2) from rfl, sumG, stepS]
    by_cases h : (4000000000000000000 - al) / (x.1.2.1 - x.1.1) < max x.1.2.2 (-x.1.2.2)
    · simp only [if_pos h, fold_none]
    · simp only [if_neg h]
      exact sumG_run r _ _
theorem runS_snoc (l : List Pc) (x : Pc) : runS (l ++ [x]) = stepS (runS l) x := by rw [runS, runS, List.foldl_append]; rfl
theorem runS_none {l : List Pc} {k : Nat} (h : runS (l.take k) = none) : runS l = none := by
  rw [← List.take_append_drop k l, runS, List.foldl_append]
  rw [runS] at h
  rw [h, fold_none]
def sumQ (a v : List Int) (f t : Int) : Int × Int := if stepRB a v = true then (if daysB f t = true then sumG (pcL a v t f a) 0 0 else (0, 1)) else (0, 1)
/-- Between two rounds; a round has left. -/
def ISa (S N : Nat) (pre : List Pc) (W : World) : Prop := ∃ s al : Int, runS pre = some (s, al) ∧ -al ≤ s ∧ s ≤ al ∧ 0 ≤ al ∧ al ≤ 4000000000000000000 ∧ Blk W S 3 #[.int .i64 s] ∧ Blk W (S + 1) 3 #[.int .i64 al] ∧ N ≤ W.heap.size
def IS (w6 : World) (N : Nat) (pre : List Pc) (W : World) : Prop := ISa w6.heap.size N pre W ∧ Below w6.heap.size w6 W
def IxSa (G : Nat) (c : Code) (pre : List Pc) (W : World) : Prop := c = .ret ∧ runS pre = none ∧ Blk W G 3 #[.int .i64 0] ∧ Blk W (G + 1) 27 #[.int .i64 5]
def IxS (w : World) (c : Code) (pre : List Pc) (W : World) : Prop := IxSa (w.heap.size + 1 + 1) c pre W ∧ Below w.heap.size w W
theorem IS.own (w6 : World) (N B : Nat) (hB : w6.heap.size ≤ B) : OwnFrom B (IS w6 N) := OwnFrom.and (Own.from (fun s X Y row hs hg hr => by
      obtain ⟨s', al, e1, e2, e3, e4, e5, e6, e7, e8⟩ := hs
      exact ⟨s', al, e1, e2, e3, e4, e5, e6.kept_ hg hr, e7.kept_ hg hr, Nat.le_trans e8 hg.size⟩) _) (ownFrom_below (Nat.le_refl _) hB)
theorem IxS.own (w : World) (B : Nat) (hB : w.heap.size ≤ B) (c : Code) : OwnFrom B (IxS w c) := OwnFrom.and (Own.from (fun s X Y row hs hg hr => by
      obtain ⟨e1, e2, e3, e4⟩ := hs
      exact ⟨e1, e2, e3.kept_ hg hr, e4.kept_ hg hr⟩) _) (ownFrom_below (Nat.le_refl _) hB)
def SumP (R : Int × Int) (w : World) (e : Ending) (w' : World) : Prop := e = .returned (.tuple #[.int .i64 R.1, .int .i64 R.2]) ∧ Below w.heap.size w w'

theorem run_load_int {w : World} {g : Nat} {x : Value} (h : w.cell? ⟨g, 0, none⟩ = some x) : (loadVar 3 ⟨g, 0, none⟩).run Tryz.prog w = .ok x w := by
  simp [go_sem, h]
section
variable {F : Fence} {n : Nat} {fn : Func} {R : Ending → World → Prop} {tmps : Array Value} {W : World} {p q : Tmp} {D g g2 : Nat} {t u : TypeId} {x y : Value}
theorem ret_cc (h : fn.results = #[.cell p 3, .cell q 27]) (hp : tmps.getD p undef = .pointer (some ⟨g, 0, none⟩)) (hq : tmps.getD q undef = .pointer (some ⟨g2, 0, none⟩)) (hg : Blk W g t #[x]) (hg2 : Blk W g2 u #[y])
    (hR : R (.returned (.tuple #[x, y])) W) : bodyPostM F n Tryz.prog fn R .ret { tmps, defers := [] } W := by
  refine ⟨_, ?_, hR⟩
  rw [Array.getD_eq_getD_getElem?] at hp hq
  simp only [results, h]
  simp [Sem.run_bind, Result.andThen, hp, hq, asAddr, run_load_int (hg.cell 0), run_load_errno (hg2.cell 0)]
theorem ret_ccD (h : fn.results = #[.cell p 3, .cell q 27]) (hK : W.heap[D]? = some (.deferred (some []))) (hp : tmps.getD p undef = .pointer (some ⟨g, 0, none⟩)) (hq : tmps.getD q undef = .pointer (some ⟨g2, 0, none⟩)) (hg : Blk W g t #[x]) (hg2 : Blk W g2 u #[y])
    (hR : R (.returned (.tuple #[x, y])) (W.putObj D (.deferred none))) : bodyPostM F n Tryz.prog fn R .ret { tmps, defers := [{ target := .collected D, args := #[] }] } W := by
  have hr : ∀ r, some D = some r → ∃ o : Obj, W.heap[r]? = some o ∧ o.isCells = false := fun r e => by cases e; exact ⟨_, hK, rfl⟩
  have h3 := hg.kept_ (grownBy_putObj' W D (.deferred none)) hr
  have h4 := hg2.kept_ (grownBy_putObj' W D (.deferred none)) hr
  refine ⟨by simp, .inl ⟨_, _, rfl, run_takeDeferred hK, ?_⟩⟩
  refine ⟨_, ?_, hR⟩
  rw [Array.getD_eq_getD_getElem?] at hp hq
  simp only [results, h]
  simp [Sem.run_bind, Result.andThen, hp, hq, asAddr, run_load_int (h3.cell 0), run_load_errno (h4.cell 0)]
end
set_option maxRecDepth 100000 in
set_option maxHeartbeats 8000000 in
theorem sum_any (A A2 : Option Addr) (n n2 cap cap2 : Nat) (a v : List Int) (f t : Int) (w : World) (hs : SV w 1 A n cap (a.map encI)) (hs2 : SV w 1 A2 n2 cap2 (v.map encI)) (hn6 : n ≤ 1000000) :
    Calls Tryz.prog 78 #[.agg #[.slice A n cap, .slice A2 n2 cap2], .agg #[.int .i64 f, .int .i64 t]] w (SumP (sumQ a v f t) w) := by
  have HS := hide hs
  have HS2 := hide hs2
  have hn : a.length = n := by have := hs.len; simpa using this
  have hn2 : v.length = n2 := by have := hs2.len; simpa using this
  have HN := hide hn
  have HN2 := hide hn2
  obtain ⟨b1, hb1⟩ : ∃ B, stepRB a v = B := ⟨_, rfl⟩
  obtain ⟨b2, hb2⟩ : ∃ B, daysB f t = B := ⟨_, rfl⟩
  have K1 := hide hb1
  have K2 := hide hb2
  obtain ⟨R, hR⟩ : ∃ R, sumQ a v f t = R := ⟨_, rfl⟩
  rw [hR]
  have HR := hide hR
  clear hs hs2 hn hn2 hb1 hb2 hR
  refine (callsIn_wide (n := 6)).1 ?_
  refine callsIn_of_wp_marks Tryz.func78 rfl trivial ?_ rfl
  simp only [Tryz.ntmps78, List.size_toArray, List.length_cons, List.length_nil, Nat.reduceAdd, Nat.reduceSub, Array.replicate_succ, Array.replicate_zero, List.push_toArray, List.append_toArray, List.nil_append, List.cons_append]
  gi_wp2
  obtain ⟨w4, hw4⟩ : ∃ W, (((w.alloc (.cells #[.slice A n cap, .slice A2 n2 cap2] 127)).alloc (.cells #[.int .i64 f, .int .i64 t] 56)).alloc (.cells #[.int .i64 0] 3)).alloc (.cells #[.int .i64 0] 27) = W := ⟨_, rfl⟩
  have hA : Blk w4 w.heap.size 127 #[.slice A n cap, .slice A2 n2 cap2] := by rw [← hw4]; exact (((Blk.new _ _ _).alloc _).alloc _).alloc _
  have hB : Blk w4 (w.heap.size + 1) 56 #[.int .i64 f, .int .i64 t] := by rw [← hw4]; exact ((Blk.new' (by simp)).alloc _).alloc _
  have hC : Blk w4 (w.heap.size + 1 + 1) 3 #[.int .i64 0] := by rw [← hw4]; exact (Blk.new' (by simp)).alloc _
  have hE : Blk w4 (w.heap.size + 1 + 1 + 1) 27 #[.int .i64 0] := by rw [← hw4]; exact Blk.new' (by simp)
  have h4 : Below w.heap.size w w4 := by rw [← hw4]; exact ((((Below.refl _ _).alloc (Nat.le_refl _) _).alloc (by simp) _).alloc (by simp; omega) _).alloc (by simp; omega) _
  rw [hw4]
  clear hw4
  refine ⟨trivial, ?_⟩
  refine (callsIn_wide.2 (stepR_is K1.out w4 (HS.out.below h4) (HS2.out.below h4))).mono ?_
  rintro e w5 ⟨rfl, h5⟩
  have hA5 := hA.below h5 hA.lt
  have hB5 := hB.below h5 hB.lt
  have hC5 := hC.below h5 hC.lt
  have hE5 := hE.below h5 hE.lt
  have HB5 := hide (chain h4 h5)
  cases b1
  · have hRv : R = (0, 1) := by rw [← HR.out, sumQ, K1.out]; rfl
    subst hRv
    have q0 := hC5.cell 0
    have q1 := hE5.cell 0
    have q2 := hC5.frozen 0
    have q3 := hE5.frozen 0
    have q4 := hC5.lt
    have q5 := hE5.lt
    simp at q0 q1
    have HC5 := hide hC5
    have HE5 := hide hE5
    clear hA hB hC hE h4 h5 hA5 hB5 hC5 hE5
    gi_wp2
    refine ⟨trivial, ?_⟩
    gi_wp2
    exact ret_cc (p := 4) (q := 5) rfl rfl rfl ((HC5.out.set_ 0 (.int .i64 0)).far (by simp) _) ((HE5.out.far (by simp) _).set_ 0 (.int .i64 1)) ⟨rfl, (HB5.out.setCell (by simp; omega) _).setCell (by simp; omega) _⟩
  have y0 := hB5.cell 0
  have y1 := hB5.cell 1
  simp at y0 y1
  have HA5 := hide hA5
  have HB5b := hide hB5
  have HC5 := hide hC5
  have HE5 := hide hE5
  have la := hA5.lt
  have lb := hB5.lt
  have lc := hC5.lt
  have le := hE5.lt
  clear hA hB hC hE h4 h5 hA5 hB5 hC5 hE5
  gi_wp2
  refine ⟨trivial, ?_⟩
  gi_wp2
  refine (callsIn_wide.2 (fullS_is K2.out w5)).mono ?_
  rintro e w6 ⟨rfl, h6⟩
  have hC6 := HC5.out.below h6 lc
  have hE6 := HE5.out.below h6 le
  have HB6 := hide (chain HB5.out h6)
  have H6 := hide h6
  cases b2
  · have hRv : R = (0, 1) := by rw [← HR.out, sumQ, K1.out, K2.out]; rfl
    subst hRv
    have q0 := hC6.cell 0
    have q1 := hE6.cell 0
    have q2 := hC6.frozen 0
    have q3 := hE6.frozen 0
    have q4 := hC6.lt
    have q5 := hE6.lt
    simp at q0 q1
    have HC6 := hide hC6
    have HE6 := hide hE6
    clear hC6 hE6 h6 y0 y1
    gi_wp2
    exact ret_cc (p := 4) (q := 5) rfl rfl rfl ((HC6.out.set_ 0 (.int .i64 0)).far (by simp) _) ((HE6.out.far (by simp) _).set_ 0 (.int .i64 1)) ⟨rfl, (HB6.out.setCell (by simp; omega) _).setCell (by simp; omega) _⟩
  have hnn : n = n2 := by
    have := rsG_len K1.out
    rw [HN.out, HN2.out] at this
    exact this
  subst hnn
  have hA6 := HA5.out.below h6 la
  have hB6 := HB5b.out.below h6 lb
  obtain ⟨zs, hzs⟩ := pcs_of (pcL_ok K1.out (t := t) (r := a) (f := f) (by have := K2.out; simp [daysB] at this; omega) (by have := K2.out; simp [daysB] at this; omega) (by have := K2.out; simp [daysB] at this; omega))
  have HZS := hide hzs
  have HR2 := hide (show R = sumG (zs.map Subtype.val) 0 0 by rw [← HR.out, sumQ, K1.out, K2.out, hzs]; rfl)
  obtain ⟨w7, hw7⟩ : ∃ W, (w6.alloc (.cells #[.int .i64 0] 3)).alloc (.cells #[.int .i64 0] 3) = W := ⟨_, rfl⟩
  have h67 : Below w6.heap.size w6 w7 := by rw [← hw7]; exact ((Below.refl _ _).alloc (Nat.le_refl _) _).alloc (by simp) _
  have hS7 : Blk w7 w6.heap.size 3 #[.int .i64 0] := by rw [← hw7]; exact (Blk.new _ _ _).alloc _
  have hT7 : Blk w7 (w6.heap.size + 1) 3 #[.int .i64 0] := by rw [← hw7]; exact Blk.new' (by simp)
  have hs7 : w7.heap.size = w6.heap.size + 2 := by rw [← hw7]; simp
  have x0 := hA6.cell 0
  have x1 := hA6.cell 1
  have x2 := hB6.cell 0
  have x3 := hB6.cell 1
  simp at x0 x1 x2 x3
  have l0 := hA6.lt
  have l1 := hB6.lt
  have HW7 := hide hw7
  have HC6 := hide hC6
  have HE6 := hide hE6
  have H67 := hide h67
  have HS7 := hide hS7
  have HT7 := hide hT7
  have HSZ7 := hide hs7
  have l6 : w.heap.size + 3 < w6.heap.size := by have := hE6.lt; omega
  clear hw7 hC6 hE6 h67 hS7 hT7 hs7 h6 hA6 hB6 y0 y1 hzs
  gi_wp2
  rw [show (w6.alloc (.cells #[.int .i64 0] 3)).alloc (.cells #[.int .i64 0] 3) = w7 from HW7.out]
  clear x0 x1 x2 x3 HW7
  refine ⟨trivial, ?_⟩
  refine (pieces_in 5 f t A A2 n n cap cap2 w7).mono ?_
  rintro e w' ⟨rfl, rfl⟩
  obtain ⟨w8, hw8⟩ : ∃ W, (w7.alloc (.cells #[.slice A n cap, .slice A2 n cap2] 127)).alloc (.cells #[.int .i64 f, .int .i64 t] 56) = W := ⟨_, rfl⟩
  have h78 : Below w7.heap.size w7 w8 := by rw [← hw8]; exact ((Below.refl _ _).alloc (Nat.le_refl _) _).alloc (by simp) _
  have hF8 : Blk w8 w7.heap.size 127 #[.slice A n cap, .slice A2 n cap2] := by rw [← hw8]; exact (Blk.new _ _ _).alloc _
  have hP8 : Blk w8 (w7.heap.size + 1) 56 #[.int .i64 f, .int .i64 t] := by rw [← hw8]; exact Blk.new' (by simp)
  have hs8 : w8.heap.size = w6.heap.size + 4 := by rw [← hw8]; simp [HSZ7.out]
  rw [hw8]
  rw [HSZ7.out] at hF8 hP8 ⊢
  clear hw8
  gi_wp2
  have hC8 := hide ((HC6.out.below H67.out (by omega)).below h78 (by have := HSZ7.out; omega))
  have hE8 := hide ((HE6.out.below H67.out (by omega)).below h78 (by have := HSZ7.out; omega))
  have hS8 := hide (HS7.out.below h78 (by have := HSZ7.out; omega))
  have hT8 := hide (HT7.out.below h78 (by have := HSZ7.out; omega))
  have hb8 := hide (H67.out.trans (h78.mono (by have := HSZ7.out; omega)))
  have hw8 := hide (chain HB6.out (show Below w6.heap.size w6 w8 from hb8.out))
  clear h78
  refine wpIn_rangeFunc_ownH rfl (by omega) (gf := 157) (lb := #[.pointer (some ⟨w6.heap.size + 2 + 1, 0, none⟩), .pointer (some ⟨w6.heap.size + 2, 0, none⟩)]) rfl trivial (enters_of Tryz.func157 (by kernel_rfl) rfl)
    (pieces_stops 5 (by omega) w (w6.heap.size + 2 + 1) (w6.heap.size + 2) w6.heap.size n cap cap2 A A2 a v f t zs HZS.out HS.out HS2.out K1.out hn6 HB6.out.size w8 (by omega) (by omega) (by omega) ⟨hP8.cell 0, hP8.cell 1⟩ ⟨hF8.cell 0, hF8.cell 1⟩ hw8.out)
    KpS.trans (fun W l o o' h1 h2 h3 h4 => KpS.put (w := w8) (by omega) (by omega) (by omega) W l o o' h1 h2 h3 h4) (Below.refl _ _) (fun _ => rfl)
    (IS w6 w8.heap.size) (IxS w) (IS.own w6 _ _ (by omega)) (IxS.own w _ (by have := HB6.out.size; omega))
    ⟨⟨0, 0, rfl, by omega, by omega, by omega, by omega, hS8.out, hT8.out, Nat.le_refl _⟩, hb8.out⟩
    (fun x a' W => ∃ Bx, w8.heap.size ≤ Bx ∧ Blk W Bx 56 #[.int .i64 x.1.1, .int .i64 x.1.2.1] ∧ a' = { tmps := #[.agg #[.slice A n cap, .slice A2 n cap2], .agg #[.int .i64 f, .int .i64 t], .pointer (some ⟨w.heap.size, 0, none⟩), .pointer (some ⟨w.heap.size + 1, 0, none⟩), .pointer (some ⟨w.heap.size + 1 + 1, 0, none⟩), .pointer (some ⟨w.heap.size + 1 + 1 + 1, 0, none⟩), .pointer (some ⟨w6.heap.size, 0, none⟩), .pointer (some ⟨w6.heap.size + 1, 0, none⟩), .pointer (some ⟨Bx, 0, none⟩), .int .i64 x.1.2.2, undef, undef, .agg #[.slice A n cap, .slice A2 n cap2], .bool true, .bool false, .bool false, .agg #[.int .i64 f, .int .i64 t], .bool true, .bool false, .bool false, .agg #[.slice A n cap, .slice A2 n cap2], .agg #[.int .i64 f, .int .i64 t], .func (.func 157) #[] #[.pointer (some ⟨w6.heap.size + 2 + 1, 0, none⟩), .pointer (some ⟨w6.heap.size + 2, 0, none⟩)], .agg #[.int .i64 x.1.1, .int .i64 x.1.2.1], .int .i64 x.1.2.2, undef, undef, undef, undef, undef, undef, undef, undef, undef, undef, undef, undef, undef, undef, undef, undef, undef, undef, undef, undef, undef, undef, undef, undef, undef, undef], defers := [] })
    (fun x a' _ X Y row hs hg hr => by obtain ⟨Bx, h1, h2, h3⟩ := hs; exact ⟨Bx, h1, h2.kept_ hg (fun r e => (hr r e).2), h3⟩)
    ?assign ?body ?done ?stop
  case assign =>
    rintro l pre ⟨⟨p, q, vv⟩, hv⟩ W K ⟨⟨s, al, e1, e2, e3, e4, e5, e6, e7, e8⟩, hi2⟩ hK
    dsimp only [encPc]
    gi_wp2
    exact hK _ _ ((KeepsOthers.alloc _ _).from _) (KpS.below ((Below.refl _ _).alloc (Nat.le_refl _) _) hi2.size (by omega) (by omega)) ⟨⟨s, al, e1, e2, e3, e4, e5, e6.alloc _, e7.alloc _, by simp; omega⟩, hi2.alloc hi2.size _⟩ ⟨W.heap.size, e8, Blk.new _ _ _, rfl⟩
  case body =>
    rintro l pre ⟨⟨p, q, vv⟩, hx⟩ a' W hl ⟨r, hr⟩ ⟨⟨s, al, e1, e2, e3, e4, e5, e6, e7, e8⟩, hi2⟩ ⟨Bx, hBx, bX, rfl⟩ hlt
    dsimp only at bX ⊢
    obtain ⟨g1, g2, g3, g4, g5⟩ := hx
    dsimp only at g1 g2 g3 g4 g5
    have HE1 := hide e1
    have HI2 := hide hi2
    have HSB := hide e6
    have HTB := hide e7
    have c0 := bX.cell 0
    have c1 := bX.cell 1
    have s0 := e6.cell 0
    have t0 := e7.cell 0
    have sf := e6.frozen 0
    have tf := e7.frozen 0
    have sl := e6.lt
    have tl := e7.lt
    have hC := HC6.out.below hi2 (by omega)
    have hE := HE6.out.below hi2 (by omega)
    have z0 := hC.cell 0
    have z1 := hE.cell 0
    have zf := hC.frozen 0
    have ef := hE.frozen 0
    have zl := hC.lt
    have el := hE.lt
    simp at c0 c1 s0 t0 z0 z1
    have HCW := hide hC
    have HEW := hide hE
    have HSZ8 := hide hs8
    clear e1 e6 e7 hC hE hr hi2 hs8 bX
    by_cases hov : (4000000000000000000 - al) / (q - p) < max vv (-vv)
    · have HN := hide (show runS (pre ++ [⟨(p, q, vv), ⟨g1, g2, g3, g4, g5⟩⟩]) = none by rw [runS_snoc, HE1.out, stepS, if_pos hov])
      gi_wp2
      refine ⟨((KeepsOthers.setCell _ _ _).trans (KeepsOthers.setCell _ _ _)).from _, ⟨⟨rfl, HN.out, (HCW.out.set_ 0 (.int .i64 0)).far (by simp) _, (HEW.out.far (by simp) _).set_ 0 (.int .i64 5)⟩, ?_⟩⟩
      exact ((HB6.out.trans (HI2.out.mono (by omega))).setCell (by simp; omega) _).setCell (by simp; omega) _
    · have hN := hide (show runS (pre ++ [⟨(p, q, vv), ⟨g1, g2, g3, g4, g5⟩⟩]) = some (s + (q - p) * vv, al + (q - p) * max vv (-vv)) by rw [runS_snoc, HE1.out, stepS, if_neg hov])
      have hmx : (q - p) * max vv (-vv) ≤ 4000000000000000000 - al := by
        have h1 : max vv (-vv) ≤ (4000000000000000000 - al) / (q - p) := by omega
        have h2 := (Int.le_ediv_iff_mul_le (by omega : 0 < q - p)).1 h1
        rw [Int.mul_comm] at h2; exact h2
      have hm0 : 0 ≤ (q - p) * max vv (-vv) := Int.mul_nonneg (by omega) (by omega)
      have hv1 : (q - p) * vv ≤ (q - p) * max vv (-vv) := Int.mul_le_mul_of_nonneg_left (by omega) (by omega)
      have hv2 : -((q - p) * max vv (-vv)) ≤ (q - p) * vv := by
        have h3 : (q - p) * (-vv) ≤ (q - p) * max vv (-vv) := Int.mul_le_mul_of_nonneg_left (by omega) (by omega)
        rw [Int.mul_neg] at h3; omega
      gi_wp2
      refine ⟨((KeepsOthers.setCell _ _ _).trans (KeepsOthers.setCell _ _ _)).from _, ⟨((Below.refl _ _).setCell (by simp) _).setCell (by simp) _, ?_, ?_⟩, ⟨⟨_, _, hN.out, by omega, by omega, by omega, by omega, (HSB.out.set_ 0 _).far (by simp) _, (HTB.out.far (by simp) _).set_ 0 _, by simp; omega⟩, (HI2.out.setCell (by simp) _).setCell (by simp) _⟩⟩
      · exact (heap_setCell_other _ ⟨w6.heap.size + 1, 0, none⟩ _ _ (by simp)).trans (heap_setCell_other _ ⟨w6.heap.size, 0, none⟩ _ _ (by simp; omega))
      · exact (heap_setCell_other _ ⟨w6.heap.size + 1, 0, none⟩ _ _ (by simp)).trans (heap_setCell_other _ ⟨w6.heap.size, 0, none⟩ _ _ (by simp))
  case done =>
    rintro D ys W hD rfl ⟨⟨s, al, e1, e2, e3, e4, e5, e6, e7, e8⟩, hi2⟩ hK
    have hC := HC6.out.below hi2 (by omega)
    have hE := HE6.out.below hi2 (by omega)
    have s0 := e6.cell 0
    have z0 := hC.cell 0
    have z1 := hE.cell 0
    have zf := hC.frozen 0
    have ef := hE.frozen 0
    have zl := hC.lt
    have el := hE.lt
    simp at s0 z0 z1
    have HCW := hide hC
    have HEW := hide hE
    have HSZ8 := hide hs8
    have HI2 := hide hi2
    have HRR := hide (show R = (s, 0) by rw [HR2.out, sumG_run]; rw [runS] at e1; rw [e1])
    have HK := hide hK
    clear e1 e6 e7 hC hE hi2 hs8
    gi_wp2
    have hk2 := (KeepsOthers.setCell W ⟨w.heap.size + 1 + 1, 0, none⟩ (.int .i64 s)).trans (KeepsOthers.setCell _ ⟨w.heap.size + 1 + 1 + 1, 0, none⟩ (.int .i64 0))
    have hK2 := hk2.same D _ HK.out rfl
    refine ret_ccD (p := 4) (q := 5) rfl hK2 rfl rfl ((HCW.out.set_ 0 (.int .i64 s)).far (by simp) _) ((HEW.out.far (by simp) _).set_ 0 (.int .i64 0)) ⟨by rw [HRR.out], ?_⟩
    exact (((HB6.out.trans (HI2.out.mono (by omega))).setCell (by simp; omega) _).setCell (by simp; omega) _).trans (belowK_b (w := w) (Nat.le_refl _) _ D _ _ (by have := HSZ8.out; omega) hK2 rfl rfl)
  case stop =>
    rintro D c pre W hD ⟨k, hk, rfl⟩ ⟨⟨rfl, e2, e3, e4⟩, hb⟩ hK
    have HRR := hide (show R = (0, 5) by
      have e2' := runS_none e2
      rw [HR2.out, sumG_run]; rw [runS] at e2'; rw [e2'])
    gi_wp2
    exact ret_ccD (p := 4) (q := 5) rfl hK rfl rfl e3 e4 ⟨by rw [HRR.out], hb.trans (belowK_b (w := w) (Nat.le_refl _) W D _ _ (by omega) hK rfl rfl)⟩
end Go.Proofs.YtmfohnchnbgbaaaGreatDoor

/- What is earned: one place more of the curve. -/
namespace Go.Proofs.YtmfohnchnbgbaaaGreatDoor
open Go.RowKit

/-- A place and a value more; one on the same day is forgotten. -/
def popV (d : Int) (s : List Int × List Int) : List Int × List Int := if s.1.getLast? = some d then (s.1.dropLast, s.2.dropLast) else s
def pushV (d v : Int) (s : List Int × List Int) : List Int × List Int := if v ≠ (s.2.getLast?).getD 0 ∧ d ≤ 292194 then (s.1 ++ [d], s.2 ++ [v]) else s
def addV (d v : Int) (s : List Int × List Int) : List Int × List Int := pushV d v (popV d s)
structure FS (w : World) (B F : Nat) (A A2 : Option Addr) (c c2 : Nat) (s : List Int × List Int) : Prop where
  f : Blk w F 127 #[.slice A s.1.length c, .slice A2 s.2.length c2]
  o1 : OwnS w B 3 1 A s.1.length c (s.1.map encI)
  o2 : OwnS w B 3 1 A2 s.2.length c2 (s.2.map encI)
  ap : ∀ k, blk A = some k → blk A2 ≠ some k
  gt : F < B
  sz : B ≤ w.heap.size
  ln : s.1.length = s.2.length
structure AdcP (w : World) (B F : Nat) (A A2 : Option Addr) (s' : List Int × List Int) (e : Ending) (w' : World) : Prop where
  e : e = .returned (.tuple #[])
  ex : ∃ (A' A2' : Option Addr) (c c2 : Nat), FS w' B F A' A2' c c2 s' ∧ ∀ b, b < w.heap.size → (blk A' = some b → blk A = some b) ∧ (blk A2' = some b → blk A2 = some b)
  fr : ∀ b, b < w.heap.size → b ≠ F → blk A ≠ some b → blk A2 ≠ some b → w'.heap[b]? = w.heap[b]?
  g : w.heap.size ≤ w'.heap.size
  k : w'.os = w.os ∧ w'.tape = w.tape ∧ w'.output = w.output
def popB (d : Int) (s : List Int × List Int) : Bool := s.1.getLast? == some d
theorem popV_yes {d : Int} {s : List Int × List Int} (h : popB d s = true) : popV d s = (s.1.dropLast, s.2.dropLast) := by rw [popV, if_pos (by simpa [popB] using h)]
theorem popV_no {d : Int} {s : List Int × List Int} (h : popB d s = false) : popV d s = s := by rw [popV, if_neg (by simpa [popB] using h)]
/-- What the first part leaves. -/
structure PopP (w : World) (B F : Nat) (A A2 : Option Addr) (c c2 : Nat) (s' : List Int × List Int) (w' : World) : Prop where
  fs : FS w' B F A A2 c c2 s'
  fr : ∀ b, b ≠ F → w'.heap[b]? = w.heap[b]?
  g : w'.heap.size = w.heap.size
  k : w'.os = w.os ∧ w'.tape = w.tape ∧ w'.output = w.output
theorem FS.pop {w : World} {B F : Nat} {A A2 : Option Addr} {c c2 : Nat} {d y : Int} {r q : List Int} (h : FS w B F A A2 c c2 (r ++ [d], q ++ [y])) :
    PopP w B F A A2 c c2 (r, q) ((w.setCell ⟨F, 0, none⟩ (.slice A r.length c)).setCell ⟨F, 1, none⟩ (.slice A2 q.length c2)).drew := by
  have hgt := h.gt
  have h1 := h.o1.lt
  have h2 := h.o2.lt
  have f1 := h.o1.firsts (k := r.length) (by simp)
  have f2 := h.o2.firsts (k := q.length) (by simp)
  simp only [List.map_append, List.map_cons, List.map_nil] at f1 f2
  rw [List.take_left' (by simp)] at f1 f2
  refine ⟨⟨?_, ?_, ?_, h.ap, h.gt, by simpa using h.sz, by have := h.ln; simpa using this⟩, fun b hb => ?_, by simp, rfl, rfl, rfl⟩
  · have := ((h.f.set_ 0 (.slice A r.length c)).set_ 1 (.slice A2 q.length c2)).drew
    simpa using this
  · exact ((f1.far (fun k hk => by have := h1 k hk; simp; omega) _).far (fun k hk => by have := h1 k hk; simp; omega) _).drew
  · exact ((f2.far (fun k hk => by have := h2 k hk; simp; omega) _).far (fun k hk => by have := h2 k hk; simp; omega) _).drew
  · exact (heap_setCell_other _ ⟨F, 1, none⟩ b _ hb).trans (heap_setCell_other _ ⟨F, 0, none⟩ b _ hb)

theorem gx2 {w1 wb : World} {T : TypeId} {x y : Value} {row : Option Nat} (hg : ((w1.alloc (.cells #[x] T)).alloc (.cells #[y] T)).drew.grownBy wb row) (hne : ∀ k, row = some k → k < w1.heap.size) : Blk wb (w1.heap.size + 1) T #[y] :=
  Blk.grown (Blk.drew (Blk.new' (by simp))) hg (fun e => by have := hne _ e.symm; omega)
theorem gx3 {w1 wb : World} {T : TypeId} {x y : Value} {row : Option Nat} (hg : ((w1.alloc (.cells #[y] T)).alloc (.cells #[x] T)).drew.grownBy wb row) (hne : ∀ k, row = some k → k < w1.heap.size) : Blk wb w1.heap.size T #[y] :=
  Blk.grown (Blk.drew ((Blk.new _ _ _).alloc _)) hg (fun e => by have := hne _ e.symm; omega)
theorem Below.grown_base {w1 W wb : World} {row : Option Nat} (hg : W.grownBy wb row) (hb : Below w1.heap.size w1 W) : (∀ b, b < w1.heap.size → row ≠ some b → wb.heap[b]? = w1.heap[b]?) ∧ (wb.os = w1.os ∧ wb.tape = w1.tape ∧ wb.output = w1.output) ∧ w1.heap.size ≤ wb.heap.size :=
  ⟨fun b h1 h2 => (hg.block b (Nat.lt_of_lt_of_le h1 hb.size) (fun e => h2 e.symm)).trans (hb.block b h1), ⟨hg.os.trans hb.os, hg.tape.trans hb.tape, hg.output.trans hb.output⟩, Nat.le_trans hb.size hg.size⟩
theorem ap_of {A A2 : Option Addr} (h : ∀ k, blk A = some k → blk A2 ≠ some k) : blk A2 = none ∨ blk A2 ≠ blk A := by
  cases h1 : blk A2 with
  | none => exact .inl rfl
  | some k => exact .inr (fun e => h k e.symm h1)
theorem new_of {w1 : World} {A A3 : Option Addr} {z : Nat} (h : blk A3 = blk A ∨ blk A3 = some z) (hz : w1.heap.size ≤ z) : ∀ b, b < w1.heap.size → blk A3 = some b → blk A = some b := by
  intro b hb h3
  rcases h with h | h
  · rw [← h]; exact h3
  · rw [h] at h3; cases h3; omega
theorem FS.fin {wd : World} {B F c3 c4 n1 : Nat} {A3 A4 : Option Addr} {x0 x1 : Value} {a1 v1 : List Int} {d v : Int} (hF : Blk wd F 127 #[x0, x1]) (o3 : OwnS wd B 3 1 A3 (n1 + 1) c3 (a1.map encI ++ [d].map encI)) (o4 : OwnS wd B 3 1 A4 (n1 + 1) c4 (v1.map encI ++ [v].map encI))
    (ap : ∀ k, blk A3 = some k → blk A4 ≠ some k) (gt : F < B) (sz : B ≤ wd.heap.size) (h1 : a1.length = n1) (h2 : v1.length = n1) : FS ((wd.setCell ⟨F, 0, none⟩ (.slice A3 (n1 + 1) c3)).setCell ⟨F, 1, none⟩ (.slice A4 (n1 + 1) c4)) B F A3 A4 c3 c4 (a1 ++ [d], v1 ++ [v]) := by
  have h3 := o3.lt
  have h4 := o4.lt
  refine ⟨?_, ?_, ?_, ap, gt, by simpa using sz, by simp [h1, h2]⟩
  · have := (hF.set_ 0 (.slice A3 (n1 + 1) c3)).set_ 1 (.slice A4 (n1 + 1) c4)
    simpa [h1, h2] using this
  · have := (o3.far (p := ⟨F, 0, none⟩) (fun k hk => by have := h3 k hk; simp; omega) (.slice A3 (n1 + 1) c3)).far (p := ⟨F, 1, none⟩) (fun k hk => by have := h3 k hk; simp; omega) (.slice A4 (n1 + 1) c4)
    simpa [h1] using this
  · have := (o4.far (p := ⟨F, 0, none⟩) (fun k hk => by have := h4 k hk; simp; omega) (.slice A3 (n1 + 1) c3)).far (p := ⟨F, 1, none⟩) (fun k hk => by have := h4 k hk; simp; omega) (.slice A4 (n1 + 1) c4)
    simpa [h2] using this
theorem FS.drew {w : World} {B F : Nat} {A A2 : Option Addr} {c c2 : Nat} {s : List Int × List Int} (h : FS w B F A A2 c c2 s) : FS w.drew B F A A2 c c2 s := ⟨h.f.drew, h.o1.drew, h.o2.drew, h.ap, h.gt, h.sz, h.ln⟩
end Go.Proofs.YtmfohnchnbgbaaaGreatDoor
