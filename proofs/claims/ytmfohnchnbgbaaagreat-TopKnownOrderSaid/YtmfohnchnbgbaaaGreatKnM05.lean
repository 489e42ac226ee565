/- Part 5 of the proof. -/
import Derived.Shelf.Abstract
import Derived.Test.YtmfohnchnbgbaaaGreatRows
import Derived.ProofKit
import Derived.BigQuiet
import Derived.Deep.QuietTactic
import Derived.ScopeJumps
import Derived.WalkMore
import Derived.Test.YtmfohnchnbgbaaaGreatKnM01
import Derived.Test.YtmfohnchnbgbaaaGreatKnM04
/- Terms: whether all that is asked is so; whether terms may be. -/
namespace Go.Proofs.YtmfohnchnbgbaaaGreat
open Go.RowKit

def riskB (k v a z : Int) : Bool := decide (0 ≤ k ∧ k < 4 ∧ 1 ≤ v ∧ v ≤ 1000000000000000 ∧ 0 ≤ a ∧ a ≤ 200 ∧ 0 ≤ z ∧ z < 100)
theorem risk_any (k v a z : Int) (w : World) :
    Calls Tryz.prog 97 #[.agg #[.int .i64 k, .int .i64 v, .int .i64 a, .int .i64 z]] w fun e w' => e = .returned (.bool (riskB k v a z)) ∧ Below w.heap.size w w' := by
  go_enter Tryz.func97, Tryz.ntmps97
  go_wp2
  all_goals
    go_ret
    exact ⟨ret_bool (by rw [Bool.eq_iff_iff]; simp [riskB]; omega), (Below.refl _ _).alloc (Nat.le_refl _) _⟩

/-- A closure that asks something of a box answers b, in each world that keeps w. -/
def Asks (w : World) (f x : Nat) (b : Bool) : Prop := ∀ W, Below w.heap.size w W → Calls Tryz.prog f #[.pointer (some ⟨x, 0, none⟩)] W fun e W' => e = .returned (.bool b) ∧ Below W.heap.size W W'
def askV (f x : Nat) : Value := .func (.func f) #[] #[.pointer (some ⟨x, 0, none⟩)]

/-- The closure that is put off: the result is whether all was asked. -/
theorem allD_any (n a o : Nat) (k : Int) (A : Option Addr) (m cap : Nat) (u : FrameMode) (w : World) (hn : Blk w n 3 #[.int .i64 k]) (ha : Blk w a 293 #[.slice A m cap]) (v : Value) (ho : Blk w o 4 #[v]) :
    CallsD Tryz.prog 188 #[.pointer (some ⟨n, 0, none⟩), .pointer (some ⟨a, 0, none⟩), .pointer (some ⟨o, 0, none⟩)] u w fun e u' w' => u' = u ∧ (e = .returned (.tuple #[]) ∧ w' = w.setCell ⟨o, 0, none⟩ (.bool (k == (m : Int)))) := by
  have x0 := hn.cell 0
  have x1 := ha.cell 0
  have x2 := ho.cell 0
  have x3 := ho.frozen 0
  simp at x0 x1 x2
  go_enter_d Tryz.func188, Tryz.ntmps188
  go_wp2
  go_end0
  exact ⟨rfl, rfl⟩

/-- All of the first k. -/
def allOf (l : List Bool) : Bool := l.all id
structure AllW (w : World) (g k : Nat) (wx : World) : Prop where
  a : Blk wx w.heap.size 293 #[.slice (some ⟨g, 0, none⟩) 4 4]
  o : Blk wx (w.heap.size + 1) 4 #[.bool false]
  n : Blk wx (w.heap.size + 1 + 1) 3 #[.int .i64 k]
  b : Below w.heap.size w wx
theorem AllW.below {w wx wy : World} {g k : Nat} (h : AllW w g k wx) (hb : Below wx.heap.size wx wy) : AllW w g k wy := ⟨h.a.below hb h.a.lt, h.o.below hb h.o.lt, h.n.below hb h.n.lt, chain h.b hb⟩
theorem AllW.next {w wx : World} {g k : Nat} (h : AllW w g k wx) : AllW w g (k + 1) (wx.setCell ⟨w.heap.size + 1 + 1, 0, none⟩ (.int .i64 ((k : Int) + 1))) :=
  ⟨h.a.far (by simp; omega) _, h.o.far (by simp) _, by simpa using h.n.set_ 0 (.int .i64 ((k : Int) + 1)), h.b.setCell (by simp; omega) _⟩

set_option maxHeartbeats 2000000 in
theorem termsAll_any (fl : List Nat) (bs : List Bool) (x g : Nat) (w : World) (hl : fl.length = 4) (hbs : bs.length = 4) (hB : Blk w g 26 (fl.map fun f => askV f x).toArray)
    (he : ∀ f ∈ fl, ∀ args w, (callFunc f args).run Tryz.prog w = .ok (.enter f args) w)
    (hq : ∀ (k : Nat) (f : Nat) (b : Bool), fl[k]? = some f → bs[k]? = some b → Asks w f x b) :
    Calls Tryz.prog 141 #[.slice (some ⟨g, 0, none⟩) 4 4] w fun e w' => e = .returned (.bool (allOf bs)) ∧ Below w.heap.size w w' := by
  have hmf : ∀ (fn : Fn) (first cap : Array Value) (w : World), (Instr.makeFunc fn first cap).run Tryz.prog w = .ok (.func fn first cap) w := fun _ _ _ _ => rfl
  have HB := hide hB
  have HE := hide he
  have HQ := hide hq
  have HL := hide hl
  have HBS := hide hbs
  have hg := hB.lt
  clear hB he hq hl hbs
  go_enter_defers Tryz.func141, Tryz.ntmps141
  go_wp2_with fail
  obtain ⟨w1, hw1⟩ : ∃ W, (((w.alloc (.cells #[.slice (some ⟨g, 0, none⟩) 4 4] 293)).alloc (.cells #[.bool false] 4)).alloc (.cells #[.int .i64 0] 3)) = W := ⟨_, rfl⟩
  have h1 : AllW w g 0 w1 := by
    rw [← hw1]
    refine ⟨((Blk.new _ _ _).alloc _).alloc _, (Blk.new' (by simp)).alloc _, Blk.new' (by simp), (((Below.refl _ _).alloc (Nat.le_refl _) _).alloc (by simp) _).alloc (by simp; omega) _⟩
  rw [hw1]
  have H1 := hide h1
  clear hw1 h1
  go_loopw [9] (fun i wr => ∃ k : Nat, k ≤ 4 ∧ i = .int .i64 k ∧ allOf (bs.take k) = true ∧ AllW w g k wr) (fun i _ => 4 - (RowKit.intOf i).toNat)
  case atStart => exact ⟨0, by omega, rfl, rfl, H1.out⟩
  case round =>
    obtain ⟨k, hk, rfl, hall, hW⟩ := hrel
    have HA := hide hall
    have HW := hide hW
    by_cases hlt : k < 4
    · obtain ⟨f, hf⟩ := get_of (l := fl) (k := k) (by rw [HL.out]; exact hlt)
      obtain ⟨b, hb⟩ := get_of (l := bs) (k := k) (by rw [HBS.out]; exact hlt)
      have hc := (HB.out.below hW.b HB.out.lt).cell k
      rw [List.getElem?_toArray, List.getElem?_map, hf] at hc
      simp only [Option.map_some, askV] at hc
      have eg := HE.out f (List.mem_of_getElem? hf)
      have HC := hide (HQ.out k f b hf hb wr hW.b)
      have HT := hide (take_of hb)
      have hk0 : (0 : Int) ≤ (k : Int) := by omega
      have hk1 : (k : Int) < 4 := by omega
      have hnz : wr.heap.size = wr.heap.size := rfl
      clear hall hW hf hnz
      cases b
      · have HF := hide (show allOf bs = false by
          simp only [allOf, List.all_eq_false]
          exact ⟨false, List.mem_of_getElem? hb, by simp⟩)
        clear hb
        go_wp2_with (with_reducible refine (HC.out).mono ?_
                     rintro e w2 ⟨rfl, hb2⟩
                     have H2 := hide (HW.out.below hb2)
                     clear hb2)
        refine leaves_cons (f := 188) (args := #[.pointer (some ⟨w.heap.size + 1 + 1, 0, none⟩), .pointer (some ⟨w.heap.size, 0, none⟩), .pointer (some ⟨w.heap.size + 1, 0, none⟩)]) (by simp) (by simp [go_sem]) ?_
        refine (allD_any _ _ _ k _ 4 4 .returning _ H2.out.n H2.out.a _ H2.out.o).mono ?_
        rintro e u' w'' ⟨rfl, rfl, rfl⟩
        have hk4 : ((k : Int) == ((4 : Nat) : Int)) = false := by simp; omega
        rw [hk4]
        have ob := (H2.out.o.set_ 0 (.bool false)).cell 0
        simp at ob
        have HBE := hide (H2.out.b.setCell (p := ⟨w.heap.size + 1, 0, none⟩) (by simp) (.bool false))
        simp only [Leaves, settle, results, Tryz.results141, go_sem]
        simp [ob]
        exact ⟨HF.out, HBE.out⟩
      · clear hb
        go_wp2_with (with_reducible refine (HC.out).mono ?_
                     rintro e w2 ⟨rfl, hb2⟩
                     have H2 := hide (HW.out.below hb2)
                     have z0 := H2.out.n.cell 0
                     have z1 := H2.out.n.frozen 0
                     simp at z0
                     clear hb2)
        go_roundw
        case rel => exact ⟨k + 1, by omega, by go_num, by rw [HT.out, allOf, List.all_append]; have := HA.out; rw [allOf] at this; rw [this]; rfl, H2.out.next⟩
        case measure => simp [RowKit.intOf]; omega
    · obtain rfl : k = 4 := by omega
      clear hall hW
      go_wp2_with fail
      refine leaves_cons (f := 188) (args := #[.pointer (some ⟨w.heap.size + 1 + 1, 0, none⟩), .pointer (some ⟨w.heap.size, 0, none⟩), .pointer (some ⟨w.heap.size + 1, 0, none⟩)]) (by simp) (by simp [go_sem]) ?_
      refine (allD_any _ _ _ ((4 : Nat) : Int) _ 4 4 .returning _ HW.out.n HW.out.a _ HW.out.o).mono ?_
      rintro e u' w'' ⟨rfl, rfl, rfl⟩
      have hk4 : (((4 : Nat) : Int) == ((4 : Nat) : Int)) = true := by simp
      rw [hk4]
      have hall := HA.out
      rw [List.take_of_length_le (by rw [HBS.out]; omega)] at hall
      have ob := (HW.out.o.set_ 0 (.bool true)).cell 0
      simp at ob
      have HBE := hide (HW.out.b.setCell (p := ⟨w.heap.size + 1, 0, none⟩) (by simp) (.bool true))
      simp only [Leaves, settle, results, Tryz.results141, go_sem]
      simp [ob]
      exact ⟨hall, HBE.out⟩

/-- What a policy says. -/
structure Tm where
  f : Int
  t : Int
  k : Int
  v : Int
  a : Int
  z : Int
  A : Option Addr
  l : List Cv
  cap : Nat
def tmC (x : Tm) : Array Value := #[.int .i64 x.f, .int .i64 x.t, .int .i64 x.k, .int .i64 x.v, .int .i64 x.a, .int .i64 x.z, .slice x.A x.l.length x.cap]
def manyB (x : Tm) : Bool := decide (1 ≤ manyI x.f x.t ∧ manyI x.f x.t ≤ 1100)
def termsB (x : Tm) : Bool := allOf [spanB x.f x.t, manyB x, riskB x.k x.v x.a x.z, coversB x.l]
section
variable {w : World} {g : Nat} {x : Tm}
theorem tm_cells (hB : Blk w g 62 (tmC x)) : w.cell? ⟨g, 0, none⟩ = some (.int .i64 x.f) ∧ w.cell? ⟨g, 1, none⟩ = some (.int .i64 x.t) ∧ w.cell? ⟨g, 2, none⟩ = some (.int .i64 x.k) ∧ w.cell? ⟨g, 3, none⟩ = some (.int .i64 x.v) ∧ w.cell? ⟨g, 4, none⟩ = some (.int .i64 x.a) ∧ w.cell? ⟨g, 5, none⟩ = some (.int .i64 x.z) ∧ w.cell? ⟨g, 6, none⟩ = some (.slice x.A x.l.length x.cap) :=
  ⟨hB.cell 0, hB.cell 1, hB.cell 2, hB.cell 3, hB.cell 4, hB.cell 5, hB.cell 6⟩
theorem ask1 (hB : Blk w g 62 (tmC x)) : Asks w 142 g (spanB x.f x.t) := fun W hW => by
  obtain ⟨c0, c1, c2, c3, c4, c5, c6⟩ := tm_cells (hB.below hW hB.lt)
  clear hB
  go_enter Tryz.func142, Tryz.ntmps142
  go_wp2_with fail
  refine (span_any _ _ _).mono ?_
  rintro e w1 ⟨rfl, h1⟩
  have H1 := hide h1
  clear h1
  go_wp2_with fail
  go_ret
  exact ⟨rfl, H1.out⟩
set_option maxHeartbeats 1000000 in
theorem ask2 (hB : Blk w g 62 (tmC x)) : Asks w 144 g (manyB x) := fun W hW => by
  have HB := hide (hB.below hW hB.lt)
  obtain ⟨c0, c1, c2, c3, c4, c5, c6⟩ := tm_cells HB.out
  clear hB
  obtain ⟨m, hm⟩ : ∃ m, manyI x.f x.t = m := ⟨_, rfl⟩
  have HM := hide hm
  have hMB := hide (show manyB x = decide (1 ≤ m ∧ m ≤ 1100) by rw [manyB, hm])
  have HC := hide (fun W => many_any x.f x.t W)
  rw [hm] at HC
  clear hm
  by_cases h1 : 1 ≤ m
  · go_enter Tryz.func144, Tryz.ntmps144
    go_wp2_with fail
    refine (HC.out _).mono ?_
    rintro e w1 ⟨rfl, b1⟩
    obtain ⟨d0, d1, d2, d3, d4, d5, d6⟩ := tm_cells (HB.out.below b1 HB.out.lt)
    have H1 := hide b1
    clear b1 c0 c1 c2 c3 c4 c5 c6
    go_wp2_with fail
    refine (HC.out _).mono ?_
    rintro e w2 ⟨rfl, b2⟩
    have H2 := hide (chain H1.out b2)
    clear b2
    go_wp2_with fail
    go_ret
    exact ⟨ret_bool (by rw [hMB.out, Bool.eq_iff_iff]; simp; omega), H2.out⟩
  · have hF := hide (show manyB x = false by rw [hMB.out]; simp; omega)
    have h1' : ¬ (1 : Int) ≤ m := h1
    go_enter Tryz.func144, Tryz.ntmps144
    go_wp2_with fail
    refine (HC.out _).mono ?_
    rintro e w1 ⟨rfl, b1⟩
    have H1 := hide b1
    clear b1
    go_wp2_with fail
    go_ret
    exact ⟨ret_bool hF.out.symm, H1.out⟩
theorem ask3 (hB : Blk w g 62 (tmC x)) : Asks w 145 g (riskB x.k x.v x.a x.z) := fun W hW => by
  obtain ⟨c0, c1, c2, c3, c4, c5, c6⟩ := tm_cells (hB.below hW hB.lt)
  clear hB
  go_enter Tryz.func145, Tryz.ntmps145
  go_wp2_with fail
  refine (risk_any _ _ _ _ _).mono ?_
  rintro e w1 ⟨rfl, h1⟩
  have H1 := hide h1
  clear h1
  go_wp2_with fail
  go_ret
  exact ⟨rfl, H1.out⟩
theorem ask4 (hB : Blk w g 62 (tmC x)) (hs : SV w 5 x.A x.l.length x.cap (x.l.map encCv)) (ho : ∀ c ∈ x.l, okCv c) : Asks w 146 g (coversB x.l) := fun W hW => by
  obtain ⟨c0, c1, c2, c3, c4, c5, c6⟩ := tm_cells (hB.below hW hB.lt)
  have HS := hide (hs.below hW)
  have HO := hide ho
  clear hB hs ho
  go_enter Tryz.func146, Tryz.ntmps146
  go_wp2_with fail
  refine (covers_any _ _ _ x.l _ HS.out HO.out).mono ?_
  rintro e w1 ⟨rfl, h1⟩
  have H1 := hide h1
  clear h1
  go_wp2_with fail
  go_ret
  exact ⟨rfl, H1.out⟩
end
set_option maxHeartbeats 1000000 in
theorem terms_any (x : Tm) (w : World) (hs : SV w 5 x.A x.l.length x.cap (x.l.map encCv)) (ho : ∀ c ∈ x.l, okCv c) :
    Calls Tryz.prog 77 #[.agg #[.int .i64 x.f, .int .i64 x.t, .int .i64 x.k, .int .i64 x.v, .int .i64 x.a, .int .i64 x.z, .slice x.A x.l.length x.cap]] w fun e w' => e = .returned (.bool (termsB x)) ∧ Below w.heap.size w w' := by
  have hmf : ∀ (fn : Fn) (first cap : Array Value) (w : World), (Instr.makeFunc fn first cap).run Tryz.prog w = .ok (.func fn first cap) w := fun _ _ _ _ => rfl
  have HS := hide hs
  have HO := hide ho
  clear hs ho
  go_enter Tryz.func77, Tryz.ntmps77
  go_wp2_with fail
  have hB0 : Blk (w.alloc (.cells (tmC x) 62)) w.heap.size 62 (tmC x) := Blk.new _ _ _
  have h1 := (Below.refl w.heap.size w).alloc (Nat.le_refl _) (.cells (tmC x) 62)
  have hb1 : Below w.heap.size w ((w.alloc (.cells (tmC x) 62)).alloc (.cells #[askV 142 w.heap.size, askV 144 w.heap.size, askV 145 w.heap.size, askV 146 w.heap.size] 26)) := h1.alloc (by simp) _
  have hB := hB0.alloc (.cells #[askV 142 w.heap.size, askV 144 w.heap.size, askV 145 w.heap.size, askV 146 w.heap.size] 26)
  have hS := HS.out.below hb1
  refine (termsAll_any [142, 144, 145, 146] [spanB x.f x.t, manyB x, riskB x.k x.v x.a x.z, coversB x.l] w.heap.size (w.heap.size + 1) _ rfl rfl (Blk.new' (by simp)) (fun f hf => ?_) (fun k f b hk hb => ?_)).mono ?_
  · simp only [List.mem_cons, List.not_mem_nil, or_false] at hf
    rcases hf with rfl | rfl | rfl | rfl
    · exact Go.Proofs.enters_of Tryz.func142 (by kernel_rfl) rfl
    · exact Go.Proofs.enters_of Tryz.func144 (by kernel_rfl) rfl
    · exact Go.Proofs.enters_of Tryz.func145 (by kernel_rfl) rfl
    · exact Go.Proofs.enters_of Tryz.func146 (by kernel_rfl) rfl
  · match k, hk, hb with
    | 0, hk, hb => simp at hk hb; subst hk hb; exact ask1 hB
    | 1, hk, hb => simp at hk hb; subst hk hb; exact ask2 hB
    | 2, hk, hb => simp at hk hb; subst hk hb; exact ask3 hB
    | 3, hk, hb => simp at hk hb; subst hk hb; exact ask4 hB hS HO.out
    | k + 4, hk, hb => simp at hk
  · rintro e w1 ⟨rfl, b1⟩
    have H1 := hide (chain hb1 b1)
    clear b1 hb1 hB hB0 h1 hS
    go_wp2_with fail
    go_ret
    exact ⟨rfl, H1.out⟩
end Go.Proofs.YtmfohnchnbgbaaaGreat

/- Bands: the contracts of the program's and the document's functions, as in layer 6. -/
namespace Go.Proofs.YtmfohnchnbgbaaaGreat
open Go.RowKit

abbrev Bd := Int × Int
def encBd (x : Bd) : List Value := [.int .i64 x.1, .int .i64 x.2]
def rise (last : Int) : List Bd → Bool
  | [] => true
  | x :: r => if x.1 ≤ last ∨ 200 < x.1 ∨ x.2 < 0 ∨ 100000 < x.2 then false else rise x.1 r
def bandI (age : Int) : List Bd → Int
  | [] => 10000
  | x :: r => if x.1 < age then bandI age r else x.2
def bandsB (l : List Bd) : Bool := rise (-1) l && decide (l.length ≤ 100)
theorem Sl.bd {w : World} {B k : Nat} {A : Option Addr} {l : List Bd} {u p : Int} (h : Sl w B 2 A (l.map encBd)) (hx : l[k]? = some (u, p)) :
    ∃ b off, A = some ⟨b, off, none⟩ ∧ b < B ∧ w.cell? ⟨b, off + k * 2, none⟩ = some (.int .i64 u) ∧ w.cell? ⟨b, off + k * 2 + 1, none⟩ = some (.int .i64 p) := by
  obtain ⟨b, off, hA, hb, hc⟩ := h k (encBd (u, p)) (by simp [hx])
  exact ⟨b, off, hA, hb, hc 0 _ rfl, hc 1 _ rfl⟩

set_option maxHeartbeats 400000 in
theorem bands_any (A : Option Addr) (c : Nat) (l : List Bd) (w : World) (hl : Sl w w.heap.size 2 A (l.map encBd)) (hm : l.length ≤ 9223372036854775807) :
    Calls Tryz.prog 157 #[.slice A l.length c] w fun e w' => e = .returned (.bool (bandsB l)) ∧ Below w.heap.size w w' := by
  go_enter Tryz.func157, Tryz.ntmps157
  go_wp2
  go_loopw [3, 8] (fun t i wr => ∃ (k : Nat) (last : Int), k ≤ l.length ∧ i = .int .i64 k ∧ t = .int .i64 last ∧ rise last (l.drop k) = rise (-1) l ∧ Below w.heap.size w wr) (fun _ i _ => l.length - (intOf i).toNat)
  case atStart => exact ⟨0, -1, Nat.zero_le _, rfl, rfl, rfl, Below.refl _ _⟩
  case round =>
    obtain ⟨k, last, hk, rfl, rfl, hr, hb⟩ := hrel
    by_cases hlt : k < l.length
    · obtain ⟨⟨u, p⟩, hx⟩ := get_of hlt
      obtain ⟨b, off, rfl, hbl, hc0, hc1⟩ := (hl.below hb).bd hx
      have hs := hb.size
      rw [drop_of hx] at hr
      have H := hide hr
      clear hr hx
      go_wp2
      all_goals first
        | (go_ret
           exact ⟨ret_bool (by have h := H.out; rw [rise, if_pos (by omega)] at h; simp [bandsB, ← h]), by repeat (first | exact hb | refine Below.alloc ?_ hs _ | refine Below.setCell ?_ (by simp; omega) _)⟩)
        | (go_roundw
           case rel => exact ⟨k + 1, u, by omega, by go_num, rfl, by have h := H.out; rw [rise, if_neg (by omega)] at h; exact h, by repeat (first | exact hb | refine Below.alloc ?_ hs _ | refine Below.setCell ?_ (by simp; omega) _)⟩
           case measure => simp [intOf]; omega)
    · obtain rfl : k = l.length := by omega
      have hr' : rise (-1) l = true := by rw [← hr]; simp [rise]
      have H := hide hr'
      clear hr hr' hlt
      go_wp2
      go_ret
      exact ⟨ret_bool (by rw [bandsB, H.out, Bool.eq_iff_iff]; simp; omega), hb⟩

def lastOf (l : List Bd) (k : Nat) : Int := if k = 0 then -1 else ((l[k - 1]?).getD (0, 0)).1
theorem lastOf_zero (l : List Bd) : lastOf l 0 = -1 := rfl
theorem lastOf_succ {l : List Bd} {k : Nat} {x : Bd} (h : l[k]? = some x) : lastOf l (k + 1) = x.1 := by simp [lastOf, h]

end Go.Proofs.YtmfohnchnbgbaaaGreat
