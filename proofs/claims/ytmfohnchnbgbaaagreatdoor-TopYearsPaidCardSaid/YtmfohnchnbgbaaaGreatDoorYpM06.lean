/- Part 6 of the proof. -/
import Derived.Shelf.Abstract
import Derived.Test.YtmfohnchnbgbaaaGreatDoorRows
import Derived.ProofKit
import Derived.BigQuiet
import Derived.Deep.QuietTactic
import Derived.ScopeJumps
import Derived.WalkMore
import Derived.Deep.RegionWith
import Derived.Laws.EntriesVeiled
import Derived.Deep.RegionLaw
import Derived.Deep.RegionHeld3
import Derived.Deep.CutRange
import Derived.Test.YtmfohnchnbgbaaaGreatDoorYpM01
import Derived.Test.YtmfohnchnbgbaaaGreatDoorYpM02
import Derived.Test.YtmfohnchnbgbaaaGreatDoorYpM05
/- Terms: whether all that is asked is so; whether terms may be. -/
namespace Go.Proofs.YtmfohnchnbgbaaaGreatDoor
open Go.RowKit

def riskB (k v a z : Int) : Bool := decide (0 ≤ k ∧ k < 4 ∧ 1 ≤ v ∧ v ≤ 1000000000000000 ∧ 0 ≤ a ∧ a ≤ 200 ∧ 0 ≤ z ∧ z < 100)
theorem risk_any (k v a z : Int) (w : World) :
    Calls Tryz.prog 118 #[.agg #[.int .i64 k, .int .i64 v, .int .i64 a, .int .i64 z]] w fun e w' => e = .returned (.bool (riskB k v a z)) ∧ Below w.heap.size w w' := by
  go_enter Tryz.func118, Tryz.ntmps118
  go_wp2
  all_goals
    go_ret
    exact ⟨ret_bool (by rw [Bool.eq_iff_iff]; simp [riskB]; omega), (Below.refl _ _).alloc (Nat.le_refl _) _⟩

/-- A closure that asks something of a box answers b, in each world that keeps w. -/
def Asks (w : World) (f x : Nat) (b : Bool) : Prop := ∀ W, Below w.heap.size w W → Calls Tryz.prog f #[.pointer (some ⟨x, 0, none⟩)] W fun e W' => e = .returned (.bool b) ∧ Below W.heap.size W W'
def askV (f x : Nat) : Value := .func (.func f) #[] #[.pointer (some ⟨x, 0, none⟩)]

/-- The closure that is put off: the result is whether all was asked. -/
theorem allD_any (n a o : Nat) (k : Int) (A : Option Addr) (m cap : Nat) (u : FrameMode) (w : World) (hn : Blk w n 3 #[.int .i64 k]) (ha : Blk w a 267 #[.slice A m cap]) (v : Value) (ho : Blk w o 4 #[v]) :
    CallsD Tryz.prog 152 #[.pointer (some ⟨n, 0, none⟩), .pointer (some ⟨a, 0, none⟩), .pointer (some ⟨o, 0, none⟩)] u w fun e u' w' => u' = u ∧ (e = .returned (.tuple #[]) ∧ w' = w.setCell ⟨o, 0, none⟩ (.bool (k == (m : Int)))) := by
  have x0 := hn.cell 0
  have x1 := ha.cell 0
  have x2 := ho.cell 0
  have x3 := ho.frozen 0
  simp at x0 x1 x2
  go_enter_d Tryz.func152, Tryz.ntmps152
  go_wp2
  go_end0
  exact ⟨rfl, rfl⟩

/-- All of the first k. -/
def allOf (l : List Bool) : Bool := l.all id
structure AllW (w : World) (g k : Nat) (wx : World) : Prop where
  a : Blk wx w.heap.size 267 #[.slice (some ⟨g, 0, none⟩) 4 4]
  o : Blk wx (w.heap.size + 1) 4 #[.bool false]
  n : Blk wx (w.heap.size + 1 + 1) 3 #[.int .i64 k]
  b : Below w.heap.size w wx
theorem AllW.below {w wx wy : World} {g k : Nat} (h : AllW w g k wx) (hb : Below wx.heap.size wx wy) : AllW w g k wy := ⟨h.a.below hb h.a.lt, h.o.below hb h.o.lt, h.n.below hb h.n.lt, chain h.b hb⟩
theorem AllW.next {w wx : World} {g k : Nat} (h : AllW w g k wx) : AllW w g (k + 1) (wx.setCell ⟨w.heap.size + 1 + 1, 0, none⟩ (.int .i64 ((k : Int) + 1))) :=
  ⟨h.a.far (by simp; omega) _, h.o.far (by simp) _, by simpa using h.n.set_ 0 (.int .i64 ((k : Int) + 1)), h.b.setCell (by simp; omega) _⟩

set_option maxHeartbeats 2000000 in
theorem termsAll_any (fl : List Nat) (bs : List Bool) (x g : Nat) (w : World) (hl : fl.length = 4) (hbs : bs.length = 4) (hB : Blk w g 24 (fl.map fun f => askV f x).toArray)
    (he : ∀ f ∈ fl, ∀ args w, (callFunc f args).run Tryz.prog w = .ok (.enter f args) w)
    (hq : ∀ (k : Nat) (f : Nat) (b : Bool), fl[k]? = some f → bs[k]? = some b → Asks w f x b) :
    Calls Tryz.prog 114 #[.slice (some ⟨g, 0, none⟩) 4 4] w fun e w' => e = .returned (.bool (allOf bs)) ∧ Below w.heap.size w w' := by
  have hmf : ∀ (fn : Fn) (first cap : Array Value) (w : World), (Instr.makeFunc fn first cap).run Tryz.prog w = .ok (.func fn first cap) w := fun _ _ _ _ => rfl
  have HB := hide hB
  have HE := hide he
  have HQ := hide hq
  have HL := hide hl
  have HBS := hide hbs
  have hg := hB.lt
  clear hB he hq hl hbs
  go_enter_defers Tryz.func114, Tryz.ntmps114
  go_wp2_with fail
  obtain ⟨w1, hw1⟩ : ∃ W, (((w.alloc (.cells #[.slice (some ⟨g, 0, none⟩) 4 4] 267)).alloc (.cells #[.bool false] 4)).alloc (.cells #[.int .i64 0] 3)) = W := ⟨_, rfl⟩
  have h1 : AllW w g 0 w1 := by
    rw [← hw1]
    refine ⟨((Blk.new _ _ _).alloc _).alloc _, (Blk.new' (by simp)).alloc _, Blk.new' (by simp), (((Below.refl _ _).alloc (Nat.le_refl _) _).alloc (by simp) _).alloc (by simp; omega) _⟩
  rw [hw1]
  have H1 := hide h1
  clear hw1 h1
  go_loopw [9] (fun i wr => ∃ k : Nat, k ≤ 4 ∧ i = .int .i64 k ∧ allOf (bs.take k) = true ∧ AllW w g k wr) (fun i _ => 4 - (RowKit.intOf i).toNat)
  case atStart => exact ⟨0, by omega, rfl, rfl, H1.out⟩
  case round =>
    obtain ⟨k, hk, rfl, hall, hW⟩ := hrel
    have HA := hide hall
    have HW := hide hW
    by_cases hlt : k < 4
    · obtain ⟨f, hf⟩ := get_of (l := fl) (k := k) (by rw [HL.out]; exact hlt)
      obtain ⟨b, hb⟩ := get_of (l := bs) (k := k) (by rw [HBS.out]; exact hlt)
      have hc := (HB.out.below hW.b HB.out.lt).cell k
      rw [List.getElem?_toArray, List.getElem?_map, hf] at hc
      simp only [Option.map_some, askV] at hc
      have eg := HE.out f (List.mem_of_getElem? hf)
      have HC := hide (HQ.out k f b hf hb wr hW.b)
      have HT := hide (take_of hb)
      have hk0 : (0 : Int) ≤ (k : Int) := by omega
      have hk1 : (k : Int) < 4 := by omega
      have hnz : wr.heap.size = wr.heap.size := rfl
      clear hall hW hf hnz
      cases b
      · have HF := hide (show allOf bs = false by
          simp only [allOf, List.all_eq_false]
          exact ⟨false, List.mem_of_getElem? hb, by simp⟩)
        clear hb
        go_wp2_with (with_reducible refine (HC.out).mono ?_
                     rintro e w2 ⟨rfl, hb2⟩
                     have H2 := hide (HW.out.below hb2)
                     clear hb2)
        refine leaves_cons (f := 152) (args := #[.pointer (some ⟨w.heap.size + 1 + 1, 0, none⟩), .pointer (some ⟨w.heap.size, 0, none⟩), .pointer (some ⟨w.heap.size + 1, 0, none⟩)]) (by simp) (by simp [go_sem]) ?_
        refine (allD_any _ _ _ k _ 4 4 .returning _ H2.out.n H2.out.a _ H2.out.o).mono ?_
        rintro e u' w'' ⟨rfl, rfl, rfl⟩
        have hk4 : ((k : Int) == ((4 : Nat) : Int)) = false := by simp; omega
        rw [hk4]
        have ob := (H2.out.o.set_ 0 (.bool false)).cell 0
        simp at ob
        have HBE := hide (H2.out.b.setCell (p := ⟨w.heap.size + 1, 0, none⟩) (by simp) (.bool false))
        simp only [Leaves, settle, results, Tryz.results114, go_sem]
        simp [ob]
        exact ⟨HF.out, HBE.out⟩
      · clear hb
        go_wp2_with (with_reducible refine (HC.out).mono ?_
                     rintro e w2 ⟨rfl, hb2⟩
                     have H2 := hide (HW.out.below hb2)
                     have z0 := H2.out.n.cell 0
                     have z1 := H2.out.n.frozen 0
                     simp at z0
                     clear hb2)
        go_roundw
        case rel => exact ⟨k + 1, by omega, by go_num, by rw [HT.out, allOf, List.all_append]; have := HA.out; rw [allOf] at this; rw [this]; rfl, H2.out.next⟩
        case measure => simp [RowKit.intOf]; omega
    · obtain rfl : k = 4 := by omega
      clear hall hW
      go_wp2_with fail
      refine leaves_cons (f := 152) (args := #[.pointer (some ⟨w.heap.size + 1 + 1, 0, none⟩), .pointer (some ⟨w.heap.size, 0, none⟩), .pointer (some ⟨w.heap.size + 1, 0, none⟩)]) (by simp) (by simp [go_sem]) ?_
      refine (allD_any _ _ _ ((4 : Nat) : Int) _ 4 4 .returning _ HW.out.n HW.out.a _ HW.out.o).mono ?_
      rintro e u' w'' ⟨rfl, rfl, rfl⟩
      have hk4 : (((4 : Nat) : Int) == ((4 : Nat) : Int)) = true := by simp
      rw [hk4]
      have hall := HA.out
      rw [List.take_of_length_le (by rw [HBS.out]; omega)] at hall
      have ob := (HW.out.o.set_ 0 (.bool true)).cell 0
      simp at ob
      have HBE := hide (HW.out.b.setCell (p := ⟨w.heap.size + 1, 0, none⟩) (by simp) (.bool true))
      simp only [Leaves, settle, results, Tryz.results114, go_sem]
      simp [ob]
      exact ⟨hall, HBE.out⟩

/-- What a policy says. -/
structure Tm where
  f : Int
  t : Int
  k : Int
  v : Int
  a : Int
  z : Int
  A : Option Addr
  l : List Cv
  cap : Nat
def tmC (x : Tm) : Array Value := #[.int .i64 x.f, .int .i64 x.t, .int .i64 x.k, .int .i64 x.v, .int .i64 x.a, .int .i64 x.z, .slice x.A x.l.length x.cap]
def manyB (x : Tm) : Bool := decide (1 ≤ manyI x.f x.t ∧ manyI x.f x.t ≤ 1100)
def termsB (x : Tm) : Bool := allOf [spanB x.f x.t, manyB x, riskB x.k x.v x.a x.z, coversB x.l]
section
variable {w : World} {g : Nat} {x : Tm}
theorem tm_cells (hB : Blk w g 61 (tmC x)) : w.cell? ⟨g, 0, none⟩ = some (.int .i64 x.f) ∧ w.cell? ⟨g, 1, none⟩ = some (.int .i64 x.t) ∧ w.cell? ⟨g, 2, none⟩ = some (.int .i64 x.k) ∧ w.cell? ⟨g, 3, none⟩ = some (.int .i64 x.v) ∧ w.cell? ⟨g, 4, none⟩ = some (.int .i64 x.a) ∧ w.cell? ⟨g, 5, none⟩ = some (.int .i64 x.z) ∧ w.cell? ⟨g, 6, none⟩ = some (.slice x.A x.l.length x.cap) :=
  ⟨hB.cell 0, hB.cell 1, hB.cell 2, hB.cell 3, hB.cell 4, hB.cell 5, hB.cell 6⟩
theorem ask1 (hB : Blk w g 61 (tmC x)) : Asks w 115 g (spanB x.f x.t) := fun W hW => by
  obtain ⟨c0, c1, c2, c3, c4, c5, c6⟩ := tm_cells (hB.below hW hB.lt)
  clear hB
  go_enter Tryz.func115, Tryz.ntmps115
  go_wp2_with fail
  refine (span_any _ _ _).mono ?_
  rintro e w1 ⟨rfl, h1⟩
  have H1 := hide h1
  clear h1
  go_wp2_with fail
  go_ret
  exact ⟨rfl, H1.out⟩
set_option maxHeartbeats 1000000 in
theorem ask2 (hB : Blk w g 61 (tmC x)) : Asks w 116 g (manyB x) := fun W hW => by
  have HB := hide (hB.below hW hB.lt)
  obtain ⟨c0, c1, c2, c3, c4, c5, c6⟩ := tm_cells HB.out
  clear hB
  obtain ⟨m, hm⟩ : ∃ m, manyI x.f x.t = m := ⟨_, rfl⟩
  have HM := hide hm
  have hMB := hide (show manyB x = decide (1 ≤ m ∧ m ≤ 1100) by rw [manyB, hm])
  have HC := hide (fun W => many_any x.f x.t W)
  rw [hm] at HC
  clear hm
  by_cases h1 : 1 ≤ m
  · go_enter Tryz.func116, Tryz.ntmps116
    go_wp2_with fail
    refine (HC.out _).mono ?_
    rintro e w1 ⟨rfl, b1⟩
    obtain ⟨d0, d1, d2, d3, d4, d5, d6⟩ := tm_cells (HB.out.below b1 HB.out.lt)
    have H1 := hide b1
    clear b1 c0 c1 c2 c3 c4 c5 c6
    go_wp2_with fail
    refine (HC.out _).mono ?_
    rintro e w2 ⟨rfl, b2⟩
    have H2 := hide (chain H1.out b2)
    clear b2
    go_wp2_with fail
    go_ret
    exact ⟨ret_bool (by rw [hMB.out, Bool.eq_iff_iff]; simp; omega), H2.out⟩
  · have hF := hide (show manyB x = false by rw [hMB.out]; simp; omega)
    have h1' : ¬ (1 : Int) ≤ m := h1
    go_enter Tryz.func116, Tryz.ntmps116
    go_wp2_with fail
    refine (HC.out _).mono ?_
    rintro e w1 ⟨rfl, b1⟩
    have H1 := hide b1
    clear b1
    go_wp2_with fail
    go_ret
    exact ⟨ret_bool hF.out.symm, H1.out⟩
theorem ask3 (hB : Blk w g 61 (tmC x)) : Asks w 117 g (riskB x.k x.v x.a x.z) := fun W hW => by
  obtain ⟨c0, c1, c2, c3, c4, c5, c6⟩ := tm_cells (hB.below hW hB.lt)
  clear hB
  go_enter Tryz.func117, Tryz.ntmps117
  go_wp2_with fail
  refine (risk_any _ _ _ _ _).mono ?_
  rintro e w1 ⟨rfl, h1⟩
  have H1 := hide h1
  clear h1
  go_wp2_with fail
  go_ret
  exact ⟨rfl, H1.out⟩
theorem ask4 (hB : Blk w g 61 (tmC x)) (hs : SV w 5 x.A x.l.length x.cap (x.l.map encCv)) (ho : ∀ c ∈ x.l, okCv c) : Asks w 119 g (coversB x.l) := fun W hW => by
  obtain ⟨c0, c1, c2, c3, c4, c5, c6⟩ := tm_cells (hB.below hW hB.lt)
  have HS := hide (hs.below hW)
  have HO := hide ho
  clear hB hs ho
  go_enter Tryz.func119, Tryz.ntmps119
  go_wp2_with fail
  refine (covers_any _ _ _ x.l _ HS.out HO.out).mono ?_
  rintro e w1 ⟨rfl, h1⟩
  have H1 := hide h1
  clear h1
  go_wp2_with fail
  go_ret
  exact ⟨rfl, H1.out⟩
end
set_option maxHeartbeats 1000000 in
theorem terms_any (x : Tm) (w : World) (hs : SV w 5 x.A x.l.length x.cap (x.l.map encCv)) (ho : ∀ c ∈ x.l, okCv c) :
    Calls Tryz.prog 69 #[.agg #[.int .i64 x.f, .int .i64 x.t, .int .i64 x.k, .int .i64 x.v, .int .i64 x.a, .int .i64 x.z, .slice x.A x.l.length x.cap]] w fun e w' => e = .returned (.bool (termsB x)) ∧ Below w.heap.size w w' := by
  have hmf : ∀ (fn : Fn) (first cap : Array Value) (w : World), (Instr.makeFunc fn first cap).run Tryz.prog w = .ok (.func fn first cap) w := fun _ _ _ _ => rfl
  have HS := hide hs
  have HO := hide ho
  clear hs ho
  go_enter Tryz.func69, Tryz.ntmps69
  go_wp2_with fail
  have hB0 : Blk (w.alloc (.cells (tmC x) 61)) w.heap.size 61 (tmC x) := Blk.new _ _ _
  have h1 := (Below.refl w.heap.size w).alloc (Nat.le_refl _) (.cells (tmC x) 61)
  have hb1 : Below w.heap.size w ((w.alloc (.cells (tmC x) 61)).alloc (.cells #[askV 115 w.heap.size, askV 116 w.heap.size, askV 117 w.heap.size, askV 119 w.heap.size] 24)) := h1.alloc (by simp) _
  have hB := hB0.alloc (.cells #[askV 115 w.heap.size, askV 116 w.heap.size, askV 117 w.heap.size, askV 119 w.heap.size] 24)
  have hS := HS.out.below hb1
  refine (termsAll_any [115, 116, 117, 119] [spanB x.f x.t, manyB x, riskB x.k x.v x.a x.z, coversB x.l] w.heap.size (w.heap.size + 1) _ rfl rfl (Blk.new' (by simp)) (fun f hf => ?_) (fun k f b hk hb => ?_)).mono ?_
  · simp only [List.mem_cons, List.not_mem_nil, or_false] at hf
    rcases hf with rfl | rfl | rfl | rfl
    · exact Go.Proofs.enters_of Tryz.func115 (by kernel_rfl) rfl
    · exact Go.Proofs.enters_of Tryz.func116 (by kernel_rfl) rfl
    · exact Go.Proofs.enters_of Tryz.func117 (by kernel_rfl) rfl
    · exact Go.Proofs.enters_of Tryz.func119 (by kernel_rfl) rfl
  · match k, hk, hb with
    | 0, hk, hb => simp at hk hb; subst hk hb; exact ask1 hB
    | 1, hk, hb => simp at hk hb; subst hk hb; exact ask2 hB
    | 2, hk, hb => simp at hk hb; subst hk hb; exact ask3 hB
    | 3, hk, hb => simp at hk hb; subst hk hb; exact ask4 hB hS HO.out
    | k + 4, hk, hb => simp at hk
  · rintro e w1 ⟨rfl, b1⟩
    have H1 := hide (chain hb1 b1)
    clear b1 hb1 hB hB0 h1 hS
    go_wp2_with fail
    go_ret
    exact ⟨rfl, H1.out⟩
end Go.Proofs.YtmfohnchnbgbaaaGreatDoor

/- Bands: the contracts of the program's and the document's functions, as in layer 6. -/
namespace Go.Proofs.YtmfohnchnbgbaaaGreatDoor
open Go.RowKit

abbrev Bd := Int × Int
def encBd (x : Bd) : List Value := [.int .i64 x.1, .int .i64 x.2]
def rise (last : Int) : List Bd → Bool
  | [] => true
  | x :: r => if x.1 ≤ last ∨ 200 < x.1 ∨ x.2 < 0 ∨ 100000 < x.2 then false else rise x.1 r
def bandI (age : Int) : List Bd → Int
  | [] => 10000
  | x :: r => if x.1 < age then bandI age r else x.2
def bandsB (l : List Bd) : Bool := rise (-1) l && decide (l.length ≤ 100)
theorem Sl.bd {w : World} {B k : Nat} {A : Option Addr} {l : List Bd} {u p : Int} (h : Sl w B 2 A (l.map encBd)) (hx : l[k]? = some (u, p)) :
    ∃ b off, A = some ⟨b, off, none⟩ ∧ b < B ∧ w.cell? ⟨b, off + k * 2, none⟩ = some (.int .i64 u) ∧ w.cell? ⟨b, off + k * 2 + 1, none⟩ = some (.int .i64 p) := by
  obtain ⟨b, off, hA, hb, hc⟩ := h k (encBd (u, p)) (by simp [hx])
  exact ⟨b, off, hA, hb, hc 0 _ rfl, hc 1 _ rfl⟩

set_option maxHeartbeats 400000 in
theorem bands_any (A : Option Addr) (c : Nat) (l : List Bd) (w : World) (hl : Sl w w.heap.size 2 A (l.map encBd)) (hm : l.length ≤ 9223372036854775807) :
    Calls Tryz.prog 155 #[.slice A l.length c] w fun e w' => e = .returned (.bool (bandsB l)) ∧ Below w.heap.size w w' := by
  go_enter Tryz.func155, Tryz.ntmps155
  go_wp2
  go_loopw [3, 8] (fun t i wr => ∃ (k : Nat) (last : Int), k ≤ l.length ∧ i = .int .i64 k ∧ t = .int .i64 last ∧ rise last (l.drop k) = rise (-1) l ∧ Below w.heap.size w wr) (fun _ i _ => l.length - (intOf i).toNat)
  case atStart => exact ⟨0, -1, Nat.zero_le _, rfl, rfl, rfl, Below.refl _ _⟩
  case round =>
    obtain ⟨k, last, hk, rfl, rfl, hr, hb⟩ := hrel
    by_cases hlt : k < l.length
    · obtain ⟨⟨u, p⟩, hx⟩ := get_of hlt
      obtain ⟨b, off, rfl, hbl, hc0, hc1⟩ := (hl.below hb).bd hx
      have hs := hb.size
      rw [drop_of hx] at hr
      have H := hide hr
      clear hr hx
      go_wp2
      all_goals first
        | (go_ret
           exact ⟨ret_bool (by have h := H.out; rw [rise, if_pos (by omega)] at h; simp [bandsB, ← h]), by repeat (first | exact hb | refine Below.alloc ?_ hs _ | refine Below.setCell ?_ (by simp; omega) _)⟩)
        | (go_roundw
           case rel => exact ⟨k + 1, u, by omega, by go_num, rfl, by have h := H.out; rw [rise, if_neg (by omega)] at h; exact h, by repeat (first | exact hb | refine Below.alloc ?_ hs _ | refine Below.setCell ?_ (by simp; omega) _)⟩
           case measure => simp [intOf]; omega)
    · obtain rfl : k = l.length := by omega
      have hr' : rise (-1) l = true := by rw [← hr]; simp [rise]
      have H := hide hr'
      clear hr hr' hlt
      go_wp2
      go_ret
      exact ⟨ret_bool (by rw [bandsB, H.out, Bool.eq_iff_iff]; simp; omega), hb⟩

end Go.Proofs.YtmfohnchnbgbaaaGreatDoor

/- Versions and tariffs: how they lie; whether numbers may be factors. -/
namespace Go.Proofs.YtmfohnchnbgbaaaGreatDoor
open Go.ChangeShapes Go.WideShapes Go.ChangeAt Go.RowKit

/-- A version, where it lies. -/
structure Vw where
  f : Int
  b0 : Int
  b1 : Int
  b2 : Int
  b3 : Int
  aA : Option Addr
  age : List Bd
  aC : Nat
  zA : Option Addr
  zone : List Int
  zC : Nat
  pA : Option Addr
  peril : List Int
  pC : Nat
  mn : Int
def encV (v : Vw) : List Value := [.int .i64 v.f, .int .i64 v.b0, .int .i64 v.b1, .int .i64 v.b2, .int .i64 v.b3, .slice v.aA v.age.length v.aC, .slice v.zA v.zone.length v.zC, .slice v.pA v.peril.length v.pC, .int .i64 v.mn]
/-- A version. -/
structure Ver where
  f : Int
  b0 : Int
  b1 : Int
  b2 : Int
  b3 : Int
  age : List Bd
  zone : List Int
  peril : List Int
  mn : Int
def Vw.v (x : Vw) : Ver := ⟨x.f, x.b0, x.b1, x.b2, x.b3, x.age, x.zone, x.peril, x.mn⟩
structure VOK (w : World) (v : Vw) : Prop where
  age : SV w 2 v.aA v.age.length v.aC (v.age.map encBd)
  zone : SV w 1 v.zA v.zone.length v.zC (v.zone.map encI)
  peril : SV w 1 v.pA v.peril.length v.pC (v.peril.map encI)
theorem VOK.below {w w' : World} {v : Vw} (h : VOK w v) (hb : Below w.heap.size w w') : VOK w' v := ⟨h.age.below hb, h.zone.below hb, h.peril.below hb⟩
/-- A slice of versions. -/
structure TV (w : World) (A : Option Addr) (n cap : Nat) (M : List Vw) : Prop where
  sv : SV w 9 A n cap (M.map encV)
  rows : ∀ v ∈ M, VOK w v
theorem TV.below {w w' : World} {A : Option Addr} {n cap : Nat} {M : List Vw} (h : TV w A n cap M) (hb : Below w.heap.size w w') : TV w' A n cap M := ⟨h.sv.below hb, fun v hv => (h.rows v hv).below hb⟩
theorem TV.len {w : World} {A : Option Addr} {n cap : Nat} {M : List Vw} (h : TV w A n cap M) : M.length = n := by have := h.sv.len; simpa using this
def allV (M : List Vw) : List Ver := M.map Vw.v

section
variable {H : Type} {enc : TypeId × Value → H} {W : World} {r : Reach} {b0 : Nat} {v : Value} {d : DataW H} {p : List MemPlace}
end

/-! ### Factors -/
def facB (l : List Int) : Bool := l.all fun x => decide (0 ≤ x ∧ x ≤ 100000)
theorem fac1_any (x : Int) (w : World) : Calls Tryz.prog 172 #[.int .i64 x] w fun e w' => e = .returned (.bool (!decide (0 ≤ x ∧ x ≤ 100000))) ∧ w = w' := by
  go_enter Tryz.func172, Tryz.ntmps172
  go_wp2
  all_goals
    go_ret
    exact ⟨ret_bool (by rw [Bool.eq_iff_iff]; simp <;> omega), rfl⟩
theorem facB_take {l : List Int} {k : Nat} {x : Int} (h : l[k]? = some x) : facB (l.take (k + 1)) = (facB (l.take k) && decide (0 ≤ x ∧ x ≤ 100000)) := by rw [take_of h]; simp [facB]
theorem facB_no {l : List Int} {k : Nat} {x : Int} (h : l[k]? = some x) (hx : ¬(0 ≤ x ∧ x ≤ 100000)) : facB l = false := by
  rw [facB, List.all_eq_false]
  exact ⟨x, List.mem_of_getElem? h, by simpa using hx⟩
set_option maxHeartbeats 1000000 in
theorem idx_any (A : Option Addr) (cap : Nat) (l : List Int) (w : World) (hs : SV w 1 A l.length cap (l.map encI)) :
    Calls Tryz.prog 177 #[.slice A l.length cap, .func (.func 172) #[] #[]] w fun e w' => (∃ i : Int, e = .returned (.int .i64 i) ∧ (decide (0 ≤ i) = !facB l)) ∧ w = w' := by
  have HS := hide hs
  have hmx := hs.le
  have hmy := hs.most
  unfold maxLen at hmy
  clear hs
  go_enter Tryz.func177, Tryz.ntmps177
  go_wp2_with fail
  go_loop [8] (fun i => ∃ k : Nat, k ≤ l.length ∧ i = .int .i64 k ∧ facB (l.take k) = true) (fun i => l.length - (intOf i).toNat)
  case atStart => exact ⟨0, Nat.zero_le _, rfl, rfl⟩
  case round =>
    obtain ⟨k, hk, rfl, hok⟩ := hrel
    have HOK := hide hok
    clear hok
    by_cases hlt : k < l.length
    · obtain ⟨x, hx⟩ := get_of hlt
      obtain ⟨bb, off, rfl, hbl, hc⟩ := HS.out.sl.i hx
      have hk0 : (0 : Int) ≤ (k : Int) := by omega
      have hk1 : (k : Int) < (l.length : Int) := by omega
      have HX := hide hx
      clear hx
      go_wp2_with fail
      refine (fac1_any x _).mono ?_
      rintro e w' ⟨rfl, rfl⟩
      by_cases hg : 0 ≤ x ∧ x ≤ 100000
      · have hd : decide (0 ≤ x ∧ x ≤ 100000) = true := by simp; omega
        have HT := hide (show facB (l.take (k + 1)) = true by rw [facB_take HX.out, HOK.out, hd]; rfl)
        rw [hd]
        clear hd hg
        go_wp2_with fail
        go_round
        case rel => exact ⟨k + 1, by omega, by go_num, HT.out⟩
        case measure => simp [intOf]; omega
      · have hd : decide (0 ≤ x ∧ x ≤ 100000) = false := by simp; omega
        have HT := hide (facB_no HX.out hg)
        rw [hd]
        clear hd hg
        go_wp2_with fail
        go_ret
        exact ⟨⟨k, rfl, by rw [HT.out]; simp⟩, rfl⟩
    · obtain rfl : k = l.length := by omega
      rw [List.take_length] at HOK
      go_wp2_with fail
      go_ret
      exact ⟨⟨-1, rfl, by rw [HOK.out]; rfl⟩, rfl⟩
theorem cont_any (A : Option Addr) (cap : Nat) (l : List Int) (w : World) (hs : SV w 1 A l.length cap (l.map encI)) :
    Calls Tryz.prog 171 #[.slice A l.length cap, .func (.func 172) #[] #[]] w fun e w' => e = .returned (.bool (!facB l)) ∧ w = w' := by
  have HS := hide hs
  clear hs
  go_enter Tryz.func171, Tryz.ntmps171
  go_wp2_with fail
  refine (idx_any A cap l _ HS.out).mono ?_
  rintro e w1 ⟨⟨i, rfl, hi⟩, rfl⟩
  have HI := hide hi
  clear hi
  go_wp2_with fail
  go_ret
  exact ⟨ret_bool HI.out, rfl⟩
theorem factors_any_Tar (A : Option Addr) (cap n : Nat) (l : List Int) (w : World) (hs : SV w 1 A n cap (l.map encI)) :
    Calls Tryz.prog 154 #[.slice A n cap] w fun e w' => e = .returned (.bool (facB l)) ∧ w = w' := by
  have hn : l.length = n := by have := hs.len; simpa using this
  subst hn
  have HS := hide hs
  clear hs
  go_enter Tryz.func154, Tryz.ntmps154
  go_wp2_with fail
  refine (cont_any A cap l _ HS.out).mono ?_
  rintro e w1 ⟨rfl, rfl⟩
  go_wp2_with fail
  go_ret
  exact ⟨ret_bool (by simp), rfl⟩
end Go.Proofs.YtmfohnchnbgbaaaGreatDoor

/- Whether a version may be: the program's and the document's answer. -/
namespace Go.Proofs.YtmfohnchnbgbaaaGreatDoor
open Go.RowKit

def numsB (v : Ver) : Bool := decide (1 ≤ v.f ∧ v.f ≤ 292194 ∧ 0 ≤ v.mn ∧ v.mn ≤ 1000000000000000)
def lensB (v : Ver) : Bool := decide (v.age.length ≤ 100 ∧ 1 ≤ v.zone.length ∧ v.zone.length ≤ 100 ∧ v.peril.length = 8)
theorem numsB_iff (x : Vw) : numsB x.v = true ↔ (1 ≤ x.f ∧ x.f ≤ 292194 ∧ 0 ≤ x.mn ∧ x.mn ≤ 1000000000000000) := by unfold numsB; exact decide_eq_true_iff
theorem lensB_iff (x : Vw) : lensB x.v = true ↔ (x.age.length ≤ 100 ∧ 1 ≤ x.zone.length ∧ x.zone.length ≤ 100 ∧ x.peril.length = 8) := by unfold lensB; exact decide_eq_true_iff
/-- Whether a version may be. -/
def versionB (v : Ver) : Bool := numsB v && (lensB v && (facB [v.b0, v.b1, v.b2, v.b3] && (facB v.zone && (facB v.peril && bandsB v.age))))
def boxV (x : Vw) : Array Value := #[.int .i64 x.f, .int .i64 x.b0, .int .i64 x.b1, .int .i64 x.b2, .int .i64 x.b3, .slice x.aA x.age.length x.aC, .slice x.zA x.zone.length x.zC, .slice x.pA x.peril.length x.pC, .int .i64 x.mn]
theorem base_sv {w : World} {g : Nat} {x : Vw} (h : Blk w g 114 (boxV x)) : SV w 1 (some ⟨g, 1, none⟩) 4 4 ([x.b0, x.b1, x.b2, x.b3].map encI) := by
  refine ⟨fun i row hr => ⟨g, 1, rfl, h.lt, fun j u hu => ?_⟩, rfl, Nat.le_refl _, by simp [maxLen], fun h => by cases h⟩
  have hi := lt_of_get hr
  simp at hi
  rw [List.getElem?_map] at hr
  obtain ⟨n, hn, rfl⟩ := Option.map_eq_some_iff.1 hr
  have : j = 0 := by have := lt_of_get hu; simp [encI] at this; exact this
  subst this
  simp [encI] at hu; subst hu
  rw [h.cell]
  rcases (show i = 0 ∨ i = 1 ∨ i = 2 ∨ i = 3 by omega) with rfl | rfl | rfl | rfl <;> (simp at hn; subst hn; rfl)

set_option maxRecDepth 100000 in
set_option maxHeartbeats 4000000 in
theorem version_any (x : Vw) (w : World) (hs : VOK w x) :
    Calls Tryz.prog 128 #[.agg #[.int .i64 x.f, .int .i64 x.b0, .int .i64 x.b1, .int .i64 x.b2, .int .i64 x.b3, .slice x.aA x.age.length x.aC, .slice x.zA x.zone.length x.zC, .slice x.pA x.peril.length x.pC, .int .i64 x.mn]] w
      fun e w' => e = .returned (.bool (versionB x.v)) ∧ Below w.heap.size w w' := by
  have HS := hide hs
  clear hs
  have hw1 : ∃ W, w.alloc (.cells (boxV x) 114) = W := ⟨_, rfl⟩
  obtain ⟨w1, hw1⟩ := hw1
  have hB : Blk w1 w.heap.size 114 (boxV x) := by rw [← hw1]; exact Blk.new _ _ _
  have hb1 : Below w.heap.size w w1 := by rw [← hw1]; exact (Below.refl _ _).alloc (Nat.le_refl _) _
  have HB := hide hB
  have H1 := hide hb1
  have HW := hide hw1
  clear hB hb1 hw1
  by_cases hn : numsB x.v = true
  case neg =>
    have HV := hide (show versionB x.v = false by rw [versionB, Bool.eq_false_iff.2 hn]; rfl)
    rw [numsB_iff] at hn
    rcases (show x.f < 1 ∨ (1 ≤ x.f ∧ 292194 < x.f) ∨ (1 ≤ x.f ∧ x.f ≤ 292194 ∧ x.mn < 0) ∨ (1 ≤ x.f ∧ x.f ≤ 292194 ∧ 0 ≤ x.mn ∧ 1000000000000000 < x.mn) by omega) with g | ⟨g, g2⟩ | ⟨g, g2, g3⟩ | ⟨g, g2, g3, g4⟩
    all_goals
      clear hn
      go_enter Tryz.func128, Tryz.ntmps128
      go_wp2_with fail
      go_ret
      exact ⟨ret_bool HV.out.symm, (Below.refl _ _).alloc (Nat.le_refl _) _⟩
  have HN := hide hn
  rw [numsB_iff] at hn
  obtain ⟨n1, n2, n3, n4⟩ := hn
  by_cases hl : lensB x.v = true
  case neg =>
    have HV := hide (show versionB x.v = false by rw [versionB, HN.out, Bool.eq_false_iff.2 hl]; rfl)
    rw [lensB_iff] at hl
    rcases (show 100 < x.age.length ∨ (x.age.length ≤ 100 ∧ x.zone.length < 1) ∨ (x.age.length ≤ 100 ∧ 1 ≤ x.zone.length ∧ 100 < x.zone.length) ∨ (x.age.length ≤ 100 ∧ 1 ≤ x.zone.length ∧ x.zone.length ≤ 100 ∧ x.peril.length ≠ 8) by omega) with g | ⟨g, g2⟩ | ⟨g, g2, g3⟩ | ⟨g, g2, g3, g4⟩
    all_goals
      clear hl
      try (have g5 : ((x.peril.length : Int) != 8) = true := by simp; omega)
      try clear g4
      go_enter Tryz.func128, Tryz.ntmps128
      go_wp2_with fail
      go_ret
      exact ⟨ret_bool HV.out.symm, (Below.refl _ _).alloc (Nat.le_refl _) _⟩
  have HL := hide hl
  rw [lensB_iff] at hl
  obtain ⟨l1, l2, l3, l4⟩ := hl
  have l4' : ((x.peril.length : Int) != 8) = false := by simp; omega
  have HL4 := hide l4
  clear l4
  go_enter Tryz.func128, Tryz.ntmps128
  go_upto_region 5 with fail
  rw [show w.alloc (.cells #[.int .i64 x.f, .int .i64 x.b0, .int .i64 x.b1, .int .i64 x.b2, .int .i64 x.b3, .slice x.aA x.age.length x.aC, .slice x.zA x.zone.length x.zC, .slice x.pA x.peril.length x.pC, .int .i64 x.mn] 114) = w1 from HW.out]
  have c5 := HB.out.cell 5
  have c6 := HB.out.cell 6
  have c7 := HB.out.cell 7
  have cl := HB.out.lt
  simp [boxV] at c5 c6 c7
  have HS1 := hide (HS.out.below H1.out)
  go_wp2_with fail
  refine (factors_any_Tar _ _ 4 [x.b0, x.b1, x.b2, x.b3] _ (base_sv HB.out)).mono ?_
  rintro e w2 ⟨rfl, rfl⟩
  cases h1 : facB [x.b0, x.b1, x.b2, x.b3]
  · have HV := hide (show versionB x.v = false by rw [versionB, HN.out, HL.out, show facB [x.v.b0, x.v.b1, x.v.b2, x.v.b3] = false from h1]; rfl)
    clear h1
    go_wp2_with fail
    go_ret
    exact ⟨ret_bool HV.out.symm, H1.out⟩
  have K1 := hide h1
  clear h1
  go_wp2_with fail
  refine (factors_any_Tar _ _ _ x.zone _ HS1.out.zone).mono ?_
  rintro e w2 ⟨rfl, rfl⟩
  cases h2 : facB x.zone
  · have HV := hide (show versionB x.v = false by rw [versionB, HN.out, HL.out, show facB [x.v.b0, x.v.b1, x.v.b2, x.v.b3] = true from K1.out, show facB x.v.zone = false from h2]; rfl)
    clear h2
    go_wp2_with fail
    go_ret
    exact ⟨ret_bool HV.out.symm, H1.out⟩
  have K2 := hide h2
  clear h2
  go_wp2_with fail
  refine (factors_any_Tar _ _ _ x.peril _ HS1.out.peril).mono ?_
  rintro e w2 ⟨rfl, rfl⟩
  cases h3 : facB x.peril
  · have HV := hide (show versionB x.v = false by rw [versionB, HN.out, HL.out, show facB [x.v.b0, x.v.b1, x.v.b2, x.v.b3] = true from K1.out, show facB x.v.zone = true from K2.out, show facB x.v.peril = false from h3]; rfl)
    clear h3
    go_wp2_with fail
    go_ret
    exact ⟨ret_bool HV.out.symm, H1.out⟩
  have K3 := hide h3
  clear h3
  go_wp2_with fail
  refine (bands_any x.aA x.aC x.age _ HS1.out.age.sl (by omega)).mono ?_
  rintro e w2 ⟨rfl, hb2⟩
  have HV := hide (show versionB x.v = bandsB x.age by rw [versionB, HN.out, HL.out, show facB [x.v.b0, x.v.b1, x.v.b2, x.v.b3] = true from K1.out, show facB x.v.zone = true from K2.out, show facB x.v.peril = true from K3.out]; rfl)
  go_wp2_with fail
  go_ret
  exact ⟨ret_bool HV.out.symm, chain H1.out hb2⟩
end Go.Proofs.YtmfohnchnbgbaaaGreatDoor
