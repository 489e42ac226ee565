/- Part 17 of the proof. -/
import Derived.Deep.MidRow
import Derived.Test.YtmfohnchnbgbaaaGreatDoorYpM16
/- What holds, from day to day. -/
namespace Go.Proofs.YtmfohnchnbgbaaaGreatDoor
open Go.RowKit

def CutN (w1 : World) (x : Tm) (q : Value) (wx : World) : Prop :=
  ∃ (G : Nat) (A : Option Addr) (cap : Nat), q = .pointer (some ⟨G, 0, none⟩) ∧ Blk wx G 121 (scC ⟨x.f, 0, true, x.k, x.v, x.a, x.z, A, x.l, cap, 0⟩) ∧ SV wx 5 A x.l.length cap (x.l.map encCv) ∧ (∀ b, blk A = some b → b ≠ G ∧ b < wx.heap.size ∧ w1.heap.size ≤ b) ∧ Below w1.heap.size w1 wx ∧ w1.heap.size ≤ G
section
variable {w : World} {g : Nat} {v0 v1 v2 v3 v4 v5 v6 v7 v8 : Value}
theorem far9 {b o : Nat} {u : Value} (hb : b ≠ g) (h : w.cell? ⟨b, o, none⟩ = some u) : (((((((((w.setCell ⟨g, 0, none⟩ v0).setCell ⟨g, 1, none⟩ v1).setCell ⟨g, 2, none⟩ v2).setCell ⟨g, 3, none⟩ v3).setCell ⟨g, 4, none⟩ v4).setCell ⟨g, 5, none⟩ v5).setCell ⟨g, 6, none⟩ v6).setCell ⟨g, 7, none⟩ v7).setCell ⟨g, 8, none⟩ v8).cell? ⟨b, o, none⟩ = some u := by
  have hb2 : g ≠ b := Ne.symm hb
  rw [World.cell?_setCell_far _ _ _ _ hb2, World.cell?_setCell_far _ _ _ _ hb2, World.cell?_setCell_far _ _ _ _ hb2, World.cell?_setCell_far _ _ _ _ hb2, World.cell?_setCell_far _ _ _ _ hb2, World.cell?_setCell_far _ _ _ _ hb2, World.cell?_setCell_far _ _ _ _ hb2, World.cell?_setCell_far _ _ _ _ hb2, World.cell?_setCell_far _ _ _ _ hb2, h]
theorem own9 {B : Nat} {e : TypeId} {sz n cap : Nat} {A : Option Addr} {rows : List (List Value)} (h : OwnS w B e sz A n cap rows) (hA : ∀ k, blk A = some k → k ≠ g) : OwnS (((((((((w.setCell ⟨g, 0, none⟩ v0).setCell ⟨g, 1, none⟩ v1).setCell ⟨g, 2, none⟩ v2).setCell ⟨g, 3, none⟩ v3).setCell ⟨g, 4, none⟩ v4).setCell ⟨g, 5, none⟩ v5).setCell ⟨g, 6, none⟩ v6).setCell ⟨g, 7, none⟩ v7).setCell ⟨g, 8, none⟩ v8) B e sz A n cap rows :=
  ((((((((h.far (p := ⟨g, 0, none⟩) hA _).far (p := ⟨g, 1, none⟩) hA _).far (p := ⟨g, 2, none⟩) hA _).far (p := ⟨g, 3, none⟩) hA _).far (p := ⟨g, 4, none⟩) hA _).far (p := ⟨g, 5, none⟩) hA _).far (p := ⟨g, 6, none⟩) hA _).far (p := ⟨g, 7, none⟩) hA _).far (p := ⟨g, 8, none⟩) hA _
theorem bel9 {B : Nat} {a : World} (h : Below B a w) (hg : B ≤ g) : Below B a (((((((((w.setCell ⟨g, 0, none⟩ v0).setCell ⟨g, 1, none⟩ v1).setCell ⟨g, 2, none⟩ v2).setCell ⟨g, 3, none⟩ v3).setCell ⟨g, 4, none⟩ v4).setCell ⟨g, 5, none⟩ v5).setCell ⟨g, 6, none⟩ v6).setCell ⟨g, 7, none⟩ v7).setCell ⟨g, 8, none⟩ v8) :=
  ((((((((h.setCell (p := ⟨g, 0, none⟩) hg _).setCell (p := ⟨g, 1, none⟩) hg _).setCell (p := ⟨g, 2, none⟩) hg _).setCell (p := ⟨g, 3, none⟩) hg _).setCell (p := ⟨g, 4, none⟩) hg _).setCell (p := ⟨g, 5, none⟩) hg _).setCell (p := ⟨g, 6, none⟩) hg _).setCell (p := ⟨g, 7, none⟩) hg _).setCell (p := ⟨g, 8, none⟩) hg _
theorem blk9 {t : TypeId} {a0 a1 a2 a3 a4 a5 a6 a7 a8 : Value} (h : Blk w g t #[a0, a1, a2, a3, a4, a5, a6, a7, a8]) : Blk (((((((((w.setCell ⟨g, 0, none⟩ v0).setCell ⟨g, 1, none⟩ v1).setCell ⟨g, 2, none⟩ v2).setCell ⟨g, 3, none⟩ v3).setCell ⟨g, 4, none⟩ v4).setCell ⟨g, 5, none⟩ v5).setCell ⟨g, 6, none⟩ v6).setCell ⟨g, 7, none⟩ v7).setCell ⟨g, 8, none⟩ v8) g t #[v0, v1, v2, v3, v4, v5, v6, v7, v8] := by
  have h2 := ((((((((h.set_ 0 v0).set_ 1 v1).set_ 2 v2).set_ 3 v3).set_ 4 v4).set_ 5 v5).set_ 6 v6).set_ 7 v7).set_ 8 v8
  simpa using h2
end
theorem cutN_set {w1 W : World} {x : Tm} {G cap : Nat} {A : Option Addr} (hG : Blk W G 121 #[.int .i64 0, .int .i64 0, .bool false, .int .i64 0, .int .i64 0, .int .i64 0, .int .i64 0, .slice none 0 0, .int .i64 0]) (hb : Below w1.heap.size w1 W) (hge : w1.heap.size ≤ G) (ho : OwnS W w1.heap.size 41 5 A x.l.length cap (x.l.map encCv)) (hne : ∀ b, blk A = some b → b ≠ G) :
    CutN w1 x (.pointer (some ⟨G, 0, none⟩)) (((((((((W.setCell ⟨G, 0, none⟩ (.int .i64 x.f)).setCell ⟨G, 1, none⟩ (.int .i64 0)).setCell ⟨G, 2, none⟩ (.bool true)).setCell ⟨G, 3, none⟩ (.int .i64 x.k)).setCell ⟨G, 4, none⟩ (.int .i64 x.v)).setCell ⟨G, 5, none⟩ (.int .i64 x.a)).setCell ⟨G, 6, none⟩ (.int .i64 x.z)).setCell ⟨G, 7, none⟩ (.slice A x.l.length cap)).setCell ⟨G, 8, none⟩ (.int .i64 0)) :=
  have ho2 := own9 (g := G) ho hne
  ⟨G, A, cap, rfl, blk9 hG, ho2.sv, fun b hb => ⟨hne b hb, (ho2.lt b hb).2, (ho2.lt b hb).1⟩, bel9 hb hge, hge⟩
theorem cutN_new {w1 W : World} {x : Tm} {cap : Nat} {A : Option Addr} (hb : Below w1.heap.size w1 W) (ho : OwnS W w1.heap.size 41 5 A x.l.length cap (x.l.map encCv)) :
    CutN w1 x (.pointer (some ⟨W.heap.size, 0, none⟩)) (W.alloc (.cells (scC ⟨x.f, 0, true, x.k, x.v, x.a, x.z, A, x.l, cap, 0⟩) 121)) :=
  have ho2 := ho.alloc (.cells (scC ⟨x.f, 0, true, x.k, x.v, x.a, x.z, A, x.l, cap, 0⟩) 121)
  ⟨W.heap.size, A, cap, rfl, Blk.new _ _ _, ho2.sv, fun b hb => ⟨by have := (ho.lt b hb).2; omega, (ho2.lt b hb).2, (ho2.lt b hb).1⟩, hb.alloc hb.size _, hb.size⟩
theorem gzB {w1 wb : World} {t1 : TypeId} {cs : Array Value} (hg : ((w1.alloc (.cells cs t1)).alloc (.cells #[.int .i64 0, .int .i64 0, .bool false, .int .i64 0, .int .i64 0, .int .i64 0, .int .i64 0, .slice none 0 0, .int .i64 0] 121)).drew.grownBy wb (blk (some ⟨w1.heap.size, 0, none⟩))) : Blk wb (w1.heap.size + 1) 121 #[.int .i64 0, .int .i64 0, .bool false, .int .i64 0, .int .i64 0, .int .i64 0, .int .i64 0, .slice none 0 0, .int .i64 0] :=
  Blk.grown (Blk.drew (Blk.new' (by simp))) hg (by simp [blk])
theorem gzC {w1 wb : World} {t1 : TypeId} {cs : Array Value} (hg : ((w1.alloc (.cells #[.int .i64 0, .int .i64 0, .bool false, .int .i64 0, .int .i64 0, .int .i64 0, .int .i64 0, .slice none 0 0, .int .i64 0] 121)).alloc (.cells cs t1)).drew.grownBy wb (blk (some ⟨w1.heap.size + 1, 0, none⟩))) : Blk wb w1.heap.size 121 #[.int .i64 0, .int .i64 0, .bool false, .int .i64 0, .int .i64 0, .int .i64 0, .int .i64 0, .slice none 0 0, .int .i64 0] :=
  Blk.grown (Blk.drew ((Blk.new _ _ _).alloc _)) hg (by simp [blk])

/-- The slices of changes in order, wherever they lie. -/
def holdsV (a b : Sp) : Bool := a.on == b.on && (decide (a.rk = b.rk ∧ a.rv = b.rv ∧ a.ra = b.ra ∧ a.rz = b.rz) && alikeB a.l b.l)
def endV (d : Int) (now : Sp) (out : List Sp) : List Sp :=
  if now.f = d then out else match out.getLast? with
    | some last => if holdsV last now = true then out.dropLast ++ [{ last with t := d }] else out ++ [{ now with t := d }]
    | none => out ++ [{ now with t := d }]
theorem end_v (d : Int) (now : Sc) (out : List Sc) : (endO d now out).map Sc.v = endV d now.v (out.map Sc.v) := by
  unfold endO endV
  by_cases hf : now.f = d
  · rw [if_pos hf, if_pos (show now.v.f = d from hf)]
  · rw [if_neg hf, if_neg (show ¬now.v.f = d from hf)]
    rcases nil_or_snoc out with rfl | ⟨r, last, rfl⟩
    · rfl
    · simp only [List.getLast?_append, List.getLast?_singleton, List.map_append, List.map_cons, List.map_nil, Option.some_or]
      by_cases hh : holdsB last now = true
      · rw [if_pos hh, if_pos (show holdsV last.v now.v = true from hh)]; simp [Sc.v]
      · rw [if_neg hh, if_neg (show ¬holdsV last.v now.v = true from hh)]; simp [Sc.v]
def stepV (s : Sp × List Sp) (c : Ch) : Sp × List Sp := (doesV { s.1 with f := c.d } c, endV c.d s.1 s.2)
def now0 (x : Tm) : Sp := ⟨x.f, 0, true, x.k, x.v, x.a, x.z, x.l, 0⟩
def stV (x : Tm) (l : List Ch) : Sp × List Sp := l.foldl stepV (now0 x, [])
def cutV (x : Tm) (l : List Ch) : List Sp := endV x.t (stV x l).1 (stV x l).2
theorem stV_take {x : Tm} {l : List Ch} {k : Nat} {c : Ch} (h : l[k]? = some c) : stV x (l.take (k + 1)) = stepV (stV x (l.take k)) c := by rw [take_of h, stV, stV, List.foldl_append]; rfl
theorem endO_len (d : Int) (now : Sc) (out : List Sc) : (endO d now out).length ≤ out.length + 1 := by
  unfold endO
  split
  · omega
  · rcases nil_or_snoc out with rfl | ⟨r, last, rfl⟩
    · simp
    · simp only [List.getLast?_append, List.getLast?_singleton, Option.some_or]
      split <;> simp
/-- What lies behind: the slices that were made. -/
structure Made (w' : World) (B : Nat) (A : Option Addr) (cap : Nat) (out : List Sc) : Prop where
  own : OwnS w' B 121 9 A out.length cap (out.map encSc)
  sv : ∀ x ∈ out, SV w' 5 x.A x.l.length x.cap (x.l.map encCv)
  ap : ∀ x ∈ out, ∀ b, blk x.A = some b → blk A ≠ some b
def CutP (V : List Sp) (w : World) (e : Ending) (w' : World) : Prop :=
  ∃ (A : Option Addr) (cap : Nat) (out : List Sc), e = .returned (.slice A out.length cap) ∧ out.map Sc.v = V ∧ Made w' w.heap.size A cap out ∧ Below w.heap.size w w'

theorem keptB {B : Nat} {W W' : World} {b o : Nat} {u : Value} (hb : Below B W W') (hl : b < B) (h : W.cell? ⟨b, o, none⟩ = some u) : W'.cell? ⟨b, o, none⟩ = some u := (hb.cell (p := ⟨b, o, none⟩) hl).trans h
set_option maxRecDepth 100000 in
set_option maxHeartbeats 4000000 in
theorem cut_any (h : Hi) (O : List Nat) (L : List Ch) (w : World) (hv : HV w h) (hl8 : h.tm.l.length ≤ 8) (hc8 : ∀ c ∈ h.cs, c.k = 2 → c.l.length ≤ 8) (hn2 : O.length ≤ 2000)
    (hO : ∀ (j o : Nat), O[j]? = some o → ∃ c, h.cs[o]? = some c ∧ L[j]? = some c) (hLn : L.length = O.length) (hord : ∀ W, Below w.heap.size w W → Calls Tryz.prog 74 #[.agg #[.int .i64 h.id, .int .i64 h.bk, .int .i64 h.tm.f, .int .i64 h.tm.t, .int .i64 h.tm.k, .int .i64 h.tm.v, .int .i64 h.tm.a, .int .i64 h.tm.z, .slice h.tm.A h.tm.l.length h.tm.cap, .slice h.A h.cs.length h.cap]] W (OrdP O W)) :
    Calls Tryz.prog 39 #[.agg #[.int .i64 h.id, .int .i64 h.bk, .int .i64 h.tm.f, .int .i64 h.tm.t, .int .i64 h.tm.k, .int .i64 h.tm.v, .int .i64 h.tm.a, .int .i64 h.tm.z, .slice h.tm.A h.tm.l.length h.tm.cap, .slice h.A h.cs.length h.cap]] w (CutP (cutV h.tm L) w) := by
  have hmf : ∀ (fn : Fn) (first cap : Array Value) (w : World), (Instr.makeFunc fn first cap).run Tryz.prog w = .ok (.func fn first cap) w := fun _ _ _ _ => rfl
  have HC8 := hide hc8
  have HO := hide hO
  have HLN := hide hLn
  have HORD := hide hord
  clear hc8 hO hLn hord
  have hle := hv.tm.le
  have HV := hide hv
  clear hv
  obtain ⟨w1, hw1⟩ : ∃ W, (w.alloc (.cells (hiC h) 64)).alloc (.cells #[.int .i64 h.tm.f, .int .i64 h.tm.t] 56) = W := ⟨_, rfl⟩
  have hB : Blk w1 w.heap.size 64 (hiC h) := by rw [← hw1]; exact (Blk.new _ _ _).alloc _
  have hS : Blk w1 (w.heap.size + 1) 56 #[.int .i64 h.tm.f, .int .i64 h.tm.t] := by rw [← hw1]; exact Blk.new' (by simp)
  have hb1 : Below w.heap.size w w1 := by rw [← hw1]; exact ((Below.refl _ _).alloc (Nat.le_refl _) _).alloc (by simp) _
  obtain ⟨z0, z1, z2, z3, z4, z5, z6, z7, z8, z9⟩ := hi_cells hB
  have s0 := hS.cell 0
  have s1 := hS.cell 1
  simp at s0 s1
  have lt0 := hS.lt
  have HB := hide hB
  have HS := hide hS
  have H1 := hide hb1
  have HW := hide hw1
  have HTM := hide (HV.out.tm.below hb1)
  clear hB hS hb1 hw1
  go_enter Tryz.func39, Tryz.ntmps39
  go_wp2_with fail
  rw [show (w.alloc (.cells #[.int .i64 h.id, .int .i64 h.bk, .int .i64 h.tm.f, .int .i64 h.tm.t, .int .i64 h.tm.k, .int .i64 h.tm.v, .int .i64 h.tm.a, .int .i64 h.tm.z, .slice h.tm.A h.tm.l.length h.tm.cap, .slice h.A h.cs.length h.cap] 64)).alloc (.cells #[.int .i64 h.tm.f, .int .i64 h.tm.t] 56) = w1 from HW.out]
  go_cut [4] (fun q wx => CutN w1 h.tm q wx)
  case first =>
    go_region_held3 (fun w' => w'.cell? ⟨w.heap.size + 1, 0, none⟩ = some (.int .i64 h.tm.f) ∧ w'.cell? ⟨w.heap.size, 4, none⟩ = some (.int .i64 h.tm.k) ∧ w'.cell? ⟨w.heap.size, 5, none⟩ = some (.int .i64 h.tm.v) ∧ w'.cell? ⟨w.heap.size, 6, none⟩ = some (.int .i64 h.tm.a) ∧ w'.cell? ⟨w.heap.size, 7, none⟩ = some (.int .i64 h.tm.z) ∧ w'.cell? ⟨w.heap.size, 8, none⟩ = some (.slice h.tm.A h.tm.l.length h.tm.cap))
      (first | with_reducible exact ⟨q0, q4, q5, q6, q7, q8⟩ | with_reducible exact ⟨far9 (by omega) q0, far9 (by omega) q4, far9 (by omega) q5, far9 (by omega) q6, far9 (by omega) q7, far9 (by omega) q8⟩ | go_keep)
      ((refine step_app rfl (.tmp 18) (.tmp 21) 59 rfl elCov (B := w1.heap.size) (rows := []) (news := h.tm.l.map encCv) rfl ?_ rfl (by simp) ?_ (okCov h.tm.l) ?_ ?_ ?_ ?_
        · refine own_of_blk ?_ ?_
          · first
              | exact Blk.drew (Blk.new _ _ _)
              | exact Blk.drew ((Blk.new _ _ _).alloc _)
              | exact Blk.drew (Blk.new' (by simp))
          · (simp; try omega)
        · refine Sl.more (Sl.below HTM.out.sl ?_) ?_
          · (repeat (first | exact Below.refl _ _ | refine Below.drew ?_ | (refine Below.alloc ?_ ?_ _; rotate_left; (simp; try omega; done))))
          · (simp; try omega)
        · (simp only [maxLen]; omega)
        · omega
        · (simp; try omega)
        intro A2 c2 wb ho2 hg2 ha2
        have hbb : Below w1.heap.size w1 wb := by
          refine Below.grown ?_ hg2 ?_ ?_
          · (repeat (first | exact Below.refl _ _ | refine Below.drew ?_ | (refine Below.alloc ?_ ?_ _; rotate_left; (simp; try omega; done))))
          · (simp; try omega)
          · intro k hk
            simp [blk] at hk
            omega
        have q0 := kept hbb s0
        have q4 := kept hbb z4
        have q5 := kept hbb z5
        have q6 := kept hbb z6
        have q7 := kept hbb z7
        have q8 := kept hbb z8
        have HO2 := hide ho2
        have HA2 := hide ha2
        have HBB := hide hbb
        first
          | (have gz := gzB hg2
             have y0 : wb.cell? ⟨w1.heap.size + 1, 0, none⟩ = some (.int .i64 0) := gz.cell 0
             have v0 := gz.frozen 0
             have y1 : wb.cell? ⟨w1.heap.size + 1, 1, none⟩ = some (.int .i64 0) := gz.cell 1
             have v1 := gz.frozen 1
             have y2 : wb.cell? ⟨w1.heap.size + 1, 2, none⟩ = some (.bool false) := gz.cell 2
             have v2 := gz.frozen 2
             have y3 : wb.cell? ⟨w1.heap.size + 1, 3, none⟩ = some (.int .i64 0) := gz.cell 3
             have v3 := gz.frozen 3
             have y4 : wb.cell? ⟨w1.heap.size + 1, 4, none⟩ = some (.int .i64 0) := gz.cell 4
             have v4 := gz.frozen 4
             have y5 : wb.cell? ⟨w1.heap.size + 1, 5, none⟩ = some (.int .i64 0) := gz.cell 5
             have v5 := gz.frozen 5
             have y6 : wb.cell? ⟨w1.heap.size + 1, 6, none⟩ = some (.int .i64 0) := gz.cell 6
             have v6 := gz.frozen 6
             have y7 : wb.cell? ⟨w1.heap.size + 1, 7, none⟩ = some (.slice none 0 0) := gz.cell 7
             have v7 := gz.frozen 7
             have y8 : wb.cell? ⟨w1.heap.size + 1, 8, none⟩ = some (.int .i64 0) := gz.cell 8
             have v8 := gz.frozen 8
             have GZ := hide gz
             clear gz)
          | (have gz := gzC hg2
             have y0 : wb.cell? ⟨w1.heap.size, 0, none⟩ = some (.int .i64 0) := gz.cell 0
             have v0 := gz.frozen 0
             have y1 : wb.cell? ⟨w1.heap.size, 1, none⟩ = some (.int .i64 0) := gz.cell 1
             have v1 := gz.frozen 1
             have y2 : wb.cell? ⟨w1.heap.size, 2, none⟩ = some (.bool false) := gz.cell 2
             have v2 := gz.frozen 2
             have y3 : wb.cell? ⟨w1.heap.size, 3, none⟩ = some (.int .i64 0) := gz.cell 3
             have v3 := gz.frozen 3
             have y4 : wb.cell? ⟨w1.heap.size, 4, none⟩ = some (.int .i64 0) := gz.cell 4
             have v4 := gz.frozen 4
             have y5 : wb.cell? ⟨w1.heap.size, 5, none⟩ = some (.int .i64 0) := gz.cell 5
             have v5 := gz.frozen 5
             have y6 : wb.cell? ⟨w1.heap.size, 6, none⟩ = some (.int .i64 0) := gz.cell 6
             have v6 := gz.frozen 6
             have y7 : wb.cell? ⟨w1.heap.size, 7, none⟩ = some (.slice none 0 0) := gz.cell 7
             have v7 := gz.frozen 7
             have y8 : wb.cell? ⟨w1.heap.size, 8, none⟩ = some (.int .i64 0) := gz.cell 8
             have v8 := gz.frozen 8
             have GZ := hide gz
             clear gz)
          | skip
        clear ho2 ha2 hbb hg2))
    · go_wp2_with fail
      go_meet
      exact cutN_new HBB.out (by simpa using HO2.out)
    · go_wp2_with fail
      go_meet
      exact cutN_set GZ.out HBB.out (by omega) (by simpa using HO2.out) (fun b hb => by
        rcases HA2.out with hh | hh <;> (rw [hh] at hb; simp [blk] at hb; omega))
    · go_wp2_with fail
      go_meet
      exact cutN_set GZ.out HBB.out (by omega) (by simpa using HO2.out) (fun b hb => by
        rcases HA2.out with hh | hh <;> (rw [hh] at hb; simp [blk] at hb; omega))
  case rest =>
    obtain ⟨G, A0, cap0, rfl, hG, hsv, hap, hbe, hge⟩ := hcut
    have hGl := hG.lt
    obtain ⟨now, hnow⟩ : ∃ x : Sc, x = ⟨h.tm.f, 0, true, h.tm.k, h.tm.v, h.tm.a, h.tm.z, A0, h.tm.l, cap0, 0⟩ := ⟨_, rfl⟩
    obtain ⟨w2, hw2⟩ : ∃ W, wc.alloc (.cells #[.slice none 0 0] 71) = W := ⟨_, rfl⟩
    have hb2 : Below wc.heap.size wc w2 := by rw [← hw2]; exact (Below.refl _ _).alloc (Nat.le_refl _) _
    have hbo : Blk w2 wc.heap.size 71 #[.slice none 0 0] := by rw [← hw2]; exact Blk.new _ _ _
    have HBn := hide (show Blk w2 G 121 (scC now) by rw [hnow]; exact hG.below hb2 hGl)
    have HSV := hide (hsv.below hb2)
    have HAP := hide hap
    have HBE := hide (chain hbe hb2)
    have HBO := hide hbo
    have hz2 := hbo.lt
    have HNW := hide hnow
    have HNV := hide (show now.v = now0 h.tm by rw [hnow]; rfl)
    have HW2 := hide hw2
    have hHe := HBE.out
    have y0 := kept hHe z0
    have y1 := kept hHe z1
    have y2 := kept hHe z2
    have y3 := kept hHe z3
    have y4 := kept hHe z4
    have y5 := kept hHe z5
    have y6 := kept hHe z6
    have y7 := kept hHe z7
    have y8 := kept hHe z8
    have y9 := kept hHe z9
    have HE2 := hide (chain H1.out hHe)
    have hgl2 := hide (⟨hge, hGl, hz2⟩ : w1.heap.size ≤ G ∧ G < wc.heap.size ∧ wc.heap.size < w2.heap.size)
    clear hnow hw2 hb2 hbo hG hsv hap hbe hHe hGl hge hz2
    go_upto_region 5 with fail
    rw [show wc.alloc (.cells #[.slice none 0 0] 71) = w2 from HW2.out]
    obtain ⟨H, hH⟩ : ∃ H, wc.heap.size = H := ⟨_, rfl⟩
    rw [hH] at hgl2 HBO HAP ⊢
    clear hH HW2
    obtain ⟨n, hn⟩ : ∃ n, O.length = n := ⟨_, rfl⟩
    have HN := hide hn
    have HORD2 := hide (HORD.out _ HE2.out)
    clear HORD
    go_wp2_with fail
    refine HORD2.out.mono ?_
    rintro e w3 ⟨A3, cap3, rfl, hs3, ha3, hb3⟩
    rw [hn] at hs3 hn2 ⊢
    clear hn
    have hgl := hgl2.out
    have hz3 := hb3.size
    have hcr : CR w1 w3 G H [now] [] none 0 w3 := by
      refine ⟨HBO.out.below hb3 (by omega), OwnS.nil_ _ _ _ _, fun x hx => ?_, fun x hx b hb => ?_, chain HBE.out hb3, hgl.1, by omega, hgl.2.1, fun x hx b hb => ?_, by omega, Nat.le_refl _, fun _ _ _ _ => rfl⟩
      · rw [List.mem_singleton] at hx
        rw [hx, HNW.out]; exact HSV.out.below hb3
      · rw [List.mem_singleton] at hx
        rw [hx, HNW.out] at hb
        have := HAP.out b hb
        exact ⟨this.1, by omega, by simp [blk]⟩
      · rw [List.mem_singleton] at hx
        rw [hx, HNW.out] at hb
        have := HAP.out b hb
        omega
    have hbn3 := HBn.out.below hb3 (by omega)
    have hle3 := hs3.le
    have hmo3 := hs3.most
    unfold maxLen at hmo3
    have HS3 := hide hs3
    have HA3 := hide (show ∀ b, blk A3 = some b → b ≠ G ∧ b ≠ H ∧ b < w3.heap.size from fun b hb => by have := ha3 b hb; exact ⟨by omega, by omega, by omega⟩)
    have HCR3 := hide hcr
    have HBN3 := hide hbn3
    have HB3 := hide (HB.out.below (chain HBE.out hb3) (by omega))
    have HSp3 := hide (HS.out.below (chain HBE.out hb3) (by omega))
    have HV3 := hide (HV.out.below (chain HE2.out hb3))
    have hlt3 : w.heap.size + 1 < G := by omega
    clear ha3 hs3 hb3 hcr hbn3 hgl HBn HBO HSV HAP HBE HNW HORD2 hz3
    go_wp2_with fail
    go_loopw [28] (fun q wr => ∃ (j : Nat) (nw : Sc) (out : List Sc) (A : Option Addr) (cap : Nat), j ≤ n ∧ q = .int .i64 j ∧ Blk wr G 121 (scC nw) ∧ CR w1 w3 G H (nw :: out) out A cap wr ∧ stV h.tm (L.take j) = (nw.v, out.map Sc.v) ∧ out.length ≤ j) (fun q _ => n - (RowKit.intOf q).toNat)
    case atStart => exact ⟨0, now, [], none, 0, Nat.zero_le _, rfl, HBN3.out, HCR3.out, by rw [HNV.out]; rfl, Nat.zero_le _⟩
    case round =>
      obtain ⟨j, nw, out, A, cap, hj, rfl, hbn, hcr, hst, hol⟩ := hrel
      have HBN := hide hbn
      have HCR := hide hcr
      have HST := hide hst
      have hlt2 := hcr.lt
      have hgh := hcr.gh
      clear hbn hcr hst
      have HBW := hide (chain H1.out HCR.out.be)
      have hH3 := HCR.out.hb
      have hBwr : Blk wr w.heap.size 64 (hiC h) := (HCR.out.fr _ (by omega) (by omega) (by omega)).trans HB3.out
      obtain ⟨x0, x1, x2, x3, x4, x5, x6, x7, x8, x9⟩ := hi_cells hBwr
      have HVR := hide (HV.out.below HBW.out)
      have HB0 := hide hBwr
      clear hBwr
      by_cases hlt : j < n
      · obtain ⟨o, ho⟩ := get_of (l := O) (k := j) (by rw [HN.out]; exact hlt)
        obtain ⟨c, hc, hlc⟩ := HO.out j o ho
        have hsw := HS3.out.only (w' := wr) (fun b hb => HCR.out.fr b (HA3.out b hb).2.2 (HA3.out b hb).1 (HA3.out b hb).2.1) HCR.out.sz
        obtain ⟨bo, oo, hAo, -, hco⟩ := hsw.sl j (encN o) (by simp [ho])
        have oc := hco 0 _ rfl
        rw [Nat.mul_one, Nat.add_zero] at oc
        obtain ⟨bc, co, hAc, hbc, a0, a1, a2, a3, a4, a5, a6, a7, a8⟩ := HV.out.cs.sl.ch hc
        have c1 := keptB HBW.out hbc a1
        have HA := hide (And.intro a0 (And.intro a1 (And.intro a2 (And.intro a3 (And.intro a4 (And.intro a5 (And.intro a6 (And.intro a7 a8))))))))
        clear a0 a1 a2 a3 a4 a5 a6 a7 a8
        have hol' := lt_of_get hc
        rw [hAc] at x9
        subst hAo
        have hk0 : (0 : Int) ≤ (j : Int) := by omega
        have hk1 : (j : Int) < (n : Int) := by omega
        have hk2 : (0 : Int) ≤ (o : Int) := by omega
        have hk3 : (o : Int) < (h.cs.length : Int) := by omega
        have hcle := HV.out.cs.le
        have hmem := List.mem_of_getElem? hc
        have HT := hide (stV_take (x := h.tm) hlc)
        have HCC := hide (HVR.out.cv c hmem)
        have HC2 := hide (HC8.out c hmem)
        have HEND := hide (end_any w1 w3 G H nw out A cap c.d wr HBN.out HCR.out (by omega))
        have HCG := hide hc
        have HAC := hide hAc
        clear ho hlc hc hsw hco hmem hAc
        go_wp2_with fail
        refine HEND.out.mono ?_
        rintro e w4 ⟨rfl, A4, cap4, hb4, hr4⟩
        have HBW4 := hide (chain H1.out hr4.be)
        have hB4 : Blk w4 w.heap.size 64 (hiC h) := (hr4.fr _ (by omega) (by omega) (by omega)).trans HB3.out
        have y9 := (hi_cells hB4).2.2.2.2.2.2.2.2.2
        rw [HAC.out] at y9
        obtain ⟨a0, a1, a2, a3, a4, a5, a6, a7, a8⟩ := HA.out
        have d0 := keptB HBW4.out hbc a0
        have d1 := keptB HBW4.out hbc a1
        have d2 := keptB HBW4.out hbc a2
        have d3 := keptB HBW4.out hbc a3
        have d4 := keptB HBW4.out hbc a4
        have d5 := keptB HBW4.out hbc a5
        have d6 := keptB HBW4.out hbc a6
        have d7 := keptB HBW4.out hbc a7
        have d8 := keptB HBW4.out hbc a8
        have HDO := hide (does_any w1 w3 G H _ (endO c.d nw out) A4 cap4 c w4 hb4 hr4 ((HV.out.cv c (List.mem_of_getElem? HCG.out)).below HBW4.out) HC2.out)
        have HEL := hide (endO_len c.d nw out)
        clear a0 a1 a2 a3 a4 a5 a6 a7 a8 c1 hB4 hb4 hr4 x0 x1 x2 x3 x4 x5 x6 x7 x8 x9
        go_wp2_with fail
        refine HDO.out.mono ?_
        rintro e w5 ⟨rfl, x', hx', hb5, hr5⟩
        have HX' := hide hx'
        have HB5 := hide hb5
        have HR5 := hide hr5
        clear hx' hb5 hr5
        go_wp2_with fail
        go_roundw
        case rel => exact ⟨j + 1, x', endO c.d nw out, A4, cap4, by omega, by go_num, HB5.out, HR5.out, by rw [HT.out, HST.out, stepV, HX'.out, end_v]; rfl, by have := HEL.out; omega⟩
        case measure => simp [RowKit.intOf]; omega
      · obtain rfl : j = n := by omega
        have hlj : L.take j = L := List.take_of_length_le (by rw [HLN.out, HN.out]; exact Nat.le_refl _)
        have hst := HST.out
        rw [hlj] at hst
        have hSp : Blk wr (w.heap.size + 1) 56 #[.int .i64 h.tm.f, .int .i64 h.tm.t] := (HCR.out.fr _ (by omega) (by omega) (by omega)).trans HSp3.out
        have s1 := hSp.cell 1
        simp at s1
        have HEND := hide (end_any w1 w3 G H nw out A cap h.tm.t wr HBN.out HCR.out (by omega))
        have HCV := hide (show cutV h.tm L = (endO h.tm.t nw out).map Sc.v by rw [cutV, hst, end_v])
        clear hlj hst hSp x0 x1 x2 x3 x4 x5 x6 x7 x8 x9
        go_wp2_with fail
        refine HEND.out.mono ?_
        rintro e w4 ⟨rfl, A4, cap4, hb4, hr4⟩
        have q0 := hr4.bo.cell 0
        simp at q0
        have HR4 := hide hr4
        clear hb4 hr4
        go_wp2_with fail
        go_ret
        exact ⟨A4, cap4, _, rfl, HCV.out.symm, ⟨HR4.out.own.mono (by have := HCR.out.be.size; have := H1.out.size; omega), fun x hx => HR4.out.sv x (by simp [hx]), fun x hx b hb => (HR4.out.ap x (by simp [hx]) b hb).2.2⟩, chain H1.out HR4.out.be⟩
end Go.Proofs.YtmfohnchnbgbaaaGreatDoor
