/- Part 14 of the proof. -/
import Derived.BigQuiet
import Derived.Deep.QuietTactic
import Derived.Deep.RegionLaw
import Derived.Test.YtmfohnchnbgbaaaGreatKnM03
import Derived.Test.YtmfohnchnbgbaaaGreatKnM13
/- Rows: what is amiss with one; how they come in. -/
namespace Go.Proofs.YtmfohnchnbgbaaaGreat
open Go.ChangeShapes Go.WideShapes Go.ChangeAt Go.RowKit

/-- A row: the day of the loss, the day it was booked, how much. -/
structure R3 where
  a : Int
  b : Int
  m : Int
def enc3 (x : R3) : List Value := [.int .i64 x.a, .int .i64 x.b, .int .i64 x.m]
def ok3 (x : R3) : Prop := ok64 x.a ∧ ok64 x.b ∧ ok64 x.m
theorem cells_3 : Tryz.prog.cellsOf 54 = 3 := by kernel_rfl
theorem leaves_3 : leaves Tryz.prog 2 54 = some [.int .i64, .int .i64, .int .i64] := by kernel_rfl
section
variable {H : Type} {enc : TypeId × Value → H} {W : World} {r : Reach} {b0 : Nat} {v : Value} {d : DataW H} {p : List MemPlace}
set_option maxRecDepth 100000 in
theorem open_r3 (hv : Value.okWide Tryz.prog W r b0 54 v) (h : DataW.Trod enc Tryz.prog W 0 (fun _ => true) true 54 v d p) :
    ∃ x : R3, v = .agg #[.int .i64 x.a, .int .i64 x.b, .int .i64 x.m] ∧ ok3 x := by
  obtain ⟨l, rfl, hl⟩ := top_arr enc Tryz.prog W 2 Tryz.underlying54 leaves_3 cells_3 hv h
  obtain ⟨n1, l1, rfl, w1, h1⟩ := leaf_int enc _ _ hl
  obtain ⟨n2, l2, rfl, w2, h2⟩ := leaf_int enc _ _ h1
  obtain ⟨n3, l3, rfl, w3, h3⟩ := leaf_int enc _ _ h2
  obtain rfl := allLeaf_nil enc _ _ h3
  exact ⟨⟨n1, n2, n3⟩, rfl, wf64 w1, wf64 w2, wf64 w3⟩
set_option maxRecDepth 100000 in
theorem open_r3s (hv : Value.okWide Tryz.prog W r b0 27 v) (h : DataW.Trod enc Tryz.prog W 0 (fun _ => true) true 27 v d p) :
    ∃ (A : Option Addr) (l : List R3) (cap : Nat), v = .slice A l.length cap ∧ SV W 3 A l.length cap (l.map enc3) ∧ ∀ x ∈ l, ok3 x := by
  obtain ⟨A, l, cap, hv, h1, h2, h3, h4, h5⟩ := rows_of enc Tryz.prog W (α := R3) 2 3 enc3 ok3 leaves_3 cells_3 rfl (by omega) (fun cs hl => by
    obtain ⟨n1, l1, rfl, w1, h1⟩ := leaf_int enc _ _ hl
    obtain ⟨n2, l2, rfl, w2, h2⟩ := leaf_int enc _ _ h1
    obtain ⟨n3, l3, rfl, w3, h3⟩ := leaf_int enc _ _ h2
    obtain rfl := allLeaf_nil enc _ _ h3
    exact ⟨⟨n1, n2, n3⟩, rfl, wf64 w1, wf64 w2, wf64 w3⟩) (top_slice enc _ _ Tryz.underlying27 hv h)
  exact ⟨A, l, cap, hv, ⟨h3, List.length_map _, h1, h2, h5⟩, h4⟩
end
theorem Sl.r3 {w : World} {B k : Nat} {A : Option Addr} {l : List R3} {x : R3} (h : Sl w B 3 A (l.map enc3)) (hx : l[k]? = some x) :
    ∃ b off, A = some ⟨b, off, none⟩ ∧ b < B ∧ w.cell? ⟨b, off + k * 3, none⟩ = some (.int .i64 x.a) ∧ w.cell? ⟨b, off + k * 3 + 1, none⟩ = some (.int .i64 x.b) ∧ w.cell? ⟨b, off + k * 3 + 2, none⟩ = some (.int .i64 x.m) := by
  obtain ⟨b, off, hA, hb, hc⟩ := h k (enc3 x) (by simp [hx])
  exact ⟨b, off, hA, hb, hc 0 _ rfl, hc 1 _ rfl, hc 2 _ rfl⟩

def moneyB (m : Int) : Bool := decide (0 ≤ m ∧ m ≤ 1000000000000000)
/-- What is amiss with a row. -/
def chk (x : R3) : Int := if ¬(1 ≤ x.a ∧ x.a ≤ 292194 ∧ 1 ≤ x.b ∧ x.b ≤ 292194 ∧ 0 ≤ x.m ∧ x.m ≤ 1000000000000000) then 1 else if x.b < x.a then 4 else 0
theorem money_any (m : Int) (w : World) : Calls Tryz.prog 69 #[.int .i64 m] w fun e w' => e = .returned (.bool (moneyB m)) ∧ w = w' := by
  go_enter Tryz.func69, Tryz.ntmps69
  go_wp2
  all_goals
    go_ret
    exact ⟨ret_bool (by rw [Bool.eq_iff_iff]; simp [moneyB]; omega), rfl⟩

set_option maxHeartbeats 2000000 in
theorem check_any (a b m : Int) (w : World) : Calls Tryz.prog 31 #[.agg #[.int .i64 a, .int .i64 b, .int .i64 m]] w fun e w' => e = .returned (.int .i64 (chk ⟨a, b, m⟩)) ∧ Below w.heap.size w w' := by
  rcases (show a < 1 ∨ (1 ≤ a ∧ 292194 < a) ∨ (1 ≤ a ∧ a ≤ 292194 ∧ b < 1) ∨ (1 ≤ a ∧ a ≤ 292194 ∧ 1 ≤ b ∧ 292194 < b) ∨ (1 ≤ a ∧ a ≤ 292194 ∧ 1 ≤ b ∧ b ≤ 292194) by omega) with h | ⟨h, h1⟩ | ⟨h, h1, h2⟩ | ⟨h, h1, h2, h3⟩ | ⟨h, h1, h2, h3⟩
  iterate 4
    · have e : chk ⟨a, b, m⟩ = 1 := by rw [chk, if_pos (by simp only; omega)]
      have E := hide e
      clear e
      go_enter Tryz.func31, Tryz.ntmps31
      go_wp2_with fail
      go_ret
      exact ⟨by rw [E.out]; rfl, (Below.refl _ _).alloc (Nat.le_refl _) _⟩
  cases hm : moneyB m
  · have e : chk ⟨a, b, m⟩ = 1 := by
      simp only [moneyB, decide_eq_false_iff_not] at hm
      rw [chk, if_pos (by simp only; omega)]
    have E := hide e
    clear e
    go_enter Tryz.func31, Tryz.ntmps31
    go_wp2_with (go_at_call 69; refine (money_any _ _).mono ?_; rintro e w' ⟨rfl, rfl⟩)
    go_ret
    exact ⟨by rw [E.out]; rfl, (Below.refl _ _).alloc (Nat.le_refl _) _⟩
  · by_cases hba : b < a
    · have e : chk ⟨a, b, m⟩ = 4 := by
        simp only [moneyB, decide_eq_true_eq] at hm
        rw [chk, if_neg (by simp only; omega), if_pos hba]
      have E := hide e
      clear e
      go_enter Tryz.func31, Tryz.ntmps31
      go_wp2_with (go_at_call 69; refine (money_any _ _).mono ?_; rintro e w' ⟨rfl, rfl⟩)
      go_ret
      exact ⟨by rw [E.out]; rfl, (Below.refl _ _).alloc (Nat.le_refl _) _⟩
    · have e : chk ⟨a, b, m⟩ = 0 := by
        simp only [moneyB, decide_eq_true_eq] at hm
        rw [chk, if_neg (by simp only; omega), if_neg hba]
      have E := hide e
      clear e
      go_enter Tryz.func31, Tryz.ntmps31
      go_wp2_with (go_at_call 69; refine (money_any _ _).mono ?_; rintro e w' ⟨rfl, rfl⟩)
      go_ret
      exact ⟨by rw [E.out]; rfl, (Below.refl _ _).alloc (Nat.le_refl _) _⟩

end Go.Proofs.YtmfohnchnbgbaaaGreat

/- Sizes that are looked at. -/
namespace Go.Proofs.YtmfohnchnbgbaaaGreat
open Go.RowKit

/-- How many cells a triangle's rows have, in 64 bits. -/
def cellsN (c : List (List Int)) : Int := c.foldl (fun n l => wrap64 (n + l.length)) 0
theorem cellsN_take {c : List (List Int)} {k : Nat} {l : List Int} (h : c[k]? = some l) : cellsN (c.take (k + 1)) = wrap64 (cellsN (c.take k) + l.length) := by rw [take_of h]; simp [cellsN]
def smallB (c : List (List Int)) : Bool := decide (c.length ≤ 100) && decide (cellsN c ≤ 1000)

end Go.Proofs.YtmfohnchnbgbaaaGreat

/- The last cells, the document's; two rows of numbers that are one. -/
namespace Go.Proofs.YtmfohnchnbgbaaaGreat
open Go.RowKit

set_option maxHeartbeats 1000000 in
theorem sameI_any (A A' : Option Addr) (n cap cap' : Nat) (l : List Int) (w : World) (hs : SV w 1 A n cap (l.map encI)) (hs' : SV w 1 A' n cap' (l.map encI)) (hm : n ≤ 9223372036854775806) :
    Calls Tryz.prog 14 #[.slice A n cap, .slice A' n cap'] w fun e w' => e = .returned (.bool true) ∧ Below w.heap.size w w' := by
  have hn : l.length = n := by have := hs.len; simpa using this
  subst hn
  have HL := hide hs.sl
  have HL' := hide hs'.sl
  clear hs hs'
  go_enter Tryz.func14, Tryz.ntmps14
  go_wp2_with fail
  go_loopw [5] (fun i wr => ∃ k : Nat, k ≤ l.length ∧ i = .int .i64 k ∧ Below w.heap.size w wr) (fun i _ => l.length - (intOf i).toNat)
  case atStart => exact ⟨0, Nat.zero_le _, rfl, Below.refl _ _⟩
  case round =>
    obtain ⟨k, hk, rfl, hb⟩ := hrel
    by_cases hlt : k < l.length
    · obtain ⟨v, hx⟩ := get_of hlt
      obtain ⟨bb, off, rfl, hbl, hc⟩ := ((HL.out.below hb).more hb.size).i hx
      obtain ⟨bb', off', rfl, hbl', hd⟩ := ((HL'.out.below hb).more hb.size).i hx
      have hk0 : (0 : Int) ≤ (k : Int) := by omega
      have hk1 : (k : Int) < (l.length : Int) := by omega
      clear hx
      go_wp2_with fail
      go_quiet (fail)
      go_wp2_with fail
      go_roundw
      case rel => exact ⟨k + 1, by omega, by go_num, bel_drewN hb _⟩
      case measure => simp [intOf]; omega
    · obtain rfl : k = l.length := by omega
      go_wp2_with fail
      go_ret
      exact ⟨rfl, hb⟩

end Go.Proofs.YtmfohnchnbgbaaaGreat

/- Two triangles that are one; a row with more in it, the document's. -/
namespace Go.Proofs.YtmfohnchnbgbaaaGreat
open Go.RowKit

theorem allM_row {M M' : List Rw} (h : allM M = allM M') {i : Nat} {r : Rw} (hr : M[i]? = some r) : ∃ r', M'[i]? = some r' ∧ r'.l = r.l := by
  have h1 := allM_get hr
  rw [h, allM, List.getElem?_map] at h1
  obtain ⟨r', hr', he⟩ := Option.map_eq_some_iff.1 h1
  exact ⟨r', hr', he⟩

end Go.Proofs.YtmfohnchnbgbaaaGreat

/- A row with more in it, from one cell on: the document's. -/
namespace Go.Proofs.YtmfohnchnbgbaaaGreat
open Go.RowKit

def moreF (dev amt : Int) (k : Nat) (v : Int) : Int := if dev ≤ (k : Int) then v + amt else v
def moreL (dev amt : Int) (l : List Int) : List Int := l.mapIdx (moreF dev amt)
def capB (l : List Int) : Bool := l.all fun v => decide (v ≤ 100000000000000000)
theorem moreL_take {dev amt : Int} {l : List Int} {k : Nat} {v : Int} (h : l[k]? = some v) : moreL dev amt (l.take (k + 1)) = moreL dev amt (l.take k) ++ [moreF dev amt k v] := by
  have hk := lt_of_get h
  rw [take_of h, moreL, moreL, List.mapIdx_concat, List.length_take, Nat.min_eq_left (by omega)]
theorem moreL_len (dev amt : Int) (l : List Int) : (moreL dev amt l).length = l.length := by simp [moreL]
theorem moreL_get {dev amt : Int} {l : List Int} {k : Nat} {v : Int} (h : l[k]? = some v) : (moreL dev amt l)[k]? = some (moreF dev amt k v) := by simp [moreL, h]
def MoreYes (w : World) (L : List Int) (n : Nat) (e : Ending) (w' : World) : Prop := ∃ A' c', e = .returned (.tuple #[.slice A' n c', .bool true]) ∧ SV w' 1 A' n c' (L.map encI) ∧ Below w.heap.size w w' ∧ ∀ kk, blk A' = some kk → w.heap.size ≤ kk

end Go.Proofs.YtmfohnchnbgbaaaGreat

/- An amount put into a triangle: what becomes of it; the document's state. -/
namespace Go.Proofs.YtmfohnchnbgbaaaGreat
open Go.RowKit

/-- What is amiss with an amount put. -/
def putE (f : Int) (c : List (List Int)) (y dev amt : Int) : Int :=
  if rightC f c = false ∨ y < f ∨ f + c.length ≤ y ∨ dev < 0 ∨ c.length - (y - f) ≤ dev ∨ amt < 0 ∨ 1000000000000000 < amt then 1
  else if capB (moreL dev amt (c.getD (y - f).toNat [])) = false then 5 else 0
/-- The triangle with it. -/
def putR (f : Int) (c : List (List Int)) (y dev amt : Int) : List (List Int) := c.set (y - f).toNat (moreL dev amt (c.getD (y - f).toNat []))
theorem putE_cases (f : Int) (c : List (List Int)) (y dev amt : Int) : putE f c y dev amt = 1 ∨ putE f c y dev amt = 5 ∨ putE f c y dev amt = 0 := by
  unfold putE; split
  · exact .inl rfl
  · split
    · exact .inr (.inl rfl)
    · exact .inr (.inr rfl)

theorem SV.grown {w w' : World} {sz n cap : Nat} {A : Option Addr} {rows : List (List Value)} (h : SV w sz A n cap rows) {row : Option Nat} (hg : w.grownBy w' row) (hne : ∀ kk, blk A = some kk → some kk ≠ row) : SV w' sz A n cap rows := by
  refine ⟨fun i r hr => ?_, h.len, h.le, h.most, h.nil⟩
  obtain ⟨b, off, hA, hb, hc⟩ := h.sl i r hr
  refine ⟨b, off, hA, Nat.lt_of_lt_of_le hb hg.size, fun j u hu => ?_⟩
  rw [World.cell?_of_block (w := w)]
  · exact hc j u hu
  · exact hg.block b hb (hne b (by rw [hA]; rfl))
theorem SV.far {w : World} {sz n cap : Nat} {A : Option Addr} {rows : List (List Value)} (h : SV w sz A n cap rows) {p : Addr} (hp : ∀ kk, blk A = some kk → kk ≠ p.block) (u : Value) : SV (w.setCell p u) sz A n cap rows :=
  h.grown (grown_set w p u) (fun kk hk he => hp kk hk (by simpa using he))
theorem SV.lt {w : World} {sz n cap kk : Nat} {A : Option Addr} {rows : List (List Value)} (h : SV w sz A n cap rows) (hn : 0 < n) (hk : blk A = some kk) : kk < w.heap.size := by
  obtain ⟨r, hr⟩ := get_of (l := rows) (k := 0) (by rw [h.len]; exact hn)
  obtain ⟨b, off, hA, hb, _⟩ := h.sl 0 r hr
  subst hA
  simp [blk] at hk
  omega
theorem elRow : ElT Tryz.prog 34 39 1 24 := ElT.mk' (z := .slice none 0 0) Tryz.underlying34 (by kernel_rfl) rfl (by omega)
theorem okRw (M : List Rw) : RowsOk 1 (M.map encRw) := by
  intro r hr
  obtain ⟨x, _, rfl⟩ := List.mem_map.1 hr
  refine ⟨rfl, fun u hu => ?_⟩
  simp [encRw] at hu
  subst hu; rfl

def triC (f : Int) (A : Option Addr) (n cap : Nat) : Array Value := #[.int .i64 f, .slice A n cap]
/-- The state of a triangle that is being made: its box G, its outer slice (owned, from B on), its rows, apart from both. -/
structure Mat (w : World) (B G : Nat) (f : Int) (R : List Rw) (A : Option Addr) (cap : Nat) (wx : World) : Prop where
  o : Blk wx G 36 (triC f A R.length cap)
  own : OwnS wx B 39 1 A R.length cap (R.map encRw)
  rows : ∀ r ∈ R, SV wx 1 r.A r.l.length r.cap (r.l.map encI)
  apart : ∀ r ∈ R, ∀ kk, blk r.A = some kk → kk < wx.heap.size ∧ kk ≠ G ∧ blk A ≠ some kk
  GB : G < B
  base : w.heap.size ≤ G
  bel : Below w.heap.size w wx
section
variable {w wx wy : World} {B G : Nat} {f : Int} {R : List Rw} {A : Option Addr} {cap : Nat}
theorem Mat.below (h : Mat w B G f R A cap wx) (hb : Below wx.heap.size wx wy) : Mat w B G f R A cap wy :=
  ⟨h.o.below hb h.o.lt, h.own.below hb, fun r hr => (h.rows r hr).below hb, fun r hr kk hk => by have := h.apart r hr kk hk; exact ⟨Nat.lt_of_lt_of_le this.1 hb.size, this.2⟩, h.GB, h.base, chain h.bel hb⟩
/-- One row more. -/
theorem Mat.step (h : Mat w B G f R A cap wx) {wo : World} (hwo : Below wx.heap.size wx wo) {r : Rw} (hr : SV wo 1 r.A r.l.length r.cap (r.l.map encI)) (hl : 0 < r.l.length) (ha : ∀ kk, blk r.A = some kk → kk ≠ G ∧ blk A ≠ some kk) {A2 : Option Addr} {c2 : Nat} {wb : World}
    (ho : OwnS wb B 39 1 A2 (R.length + 1) c2 (R.map encRw ++ [r].map encRw)) (hg : wo.grownBy wb (blk A)) (hat : blk A2 = blk A ∨ blk A2 = some wo.heap.size) :
    Mat w B G f (R ++ [r]) A2 c2 (wb.setCell ⟨G, 1, none⟩ (.slice A2 (R.length + 1) c2)) := by
  have h1 := h.below hwo
  have hG : some G ≠ blk A := fun he => by have := (h1.own.lt G he.symm).1; have := h.GB; omega
  have e : (R ++ [r]).length = R.length + 1 := by simp
  refine ⟨?_, ?_, fun x hx => ?_, fun x hx kk hk => ?_, h.GB, h.base, (h1.bel.grown hg h1.bel.size (fun j hj => by have := (h1.own.lt j hj).1; have := h.GB; have := h.base; omega)).setCell (p := ⟨G, 1, none⟩) h.base _⟩
  · rw [e]
    have := (h1.o.grown hg hG).set_ 1 (.slice A2 (R.length + 1) c2)
    simpa [triC] using this
  · rw [e, List.map_append]
    exact ho.far (fun k hk => by have := (ho.lt k hk).1; have := h.GB; simp; omega) _
  · rcases List.mem_append.1 hx with hx | hx
    · exact ((h1.rows x hx).grown hg (fun kk hk he => (h1.apart x hx kk hk).2.2 he.symm)).far (p := ⟨G, 1, none⟩) (fun kk hk => (h1.apart x hx kk hk).2.1) _
    · simp at hx; subst hx
      exact (hr.grown hg (fun kk hk he => (ha kk hk).2 he.symm)).far (p := ⟨G, 1, none⟩) (fun kk hk => (ha kk hk).1) _
  · have hk1 : kk < wo.heap.size ∧ kk ≠ G ∧ blk A ≠ some kk := by
      rcases List.mem_append.1 hx with hx | hx
      · exact h1.apart x hx kk hk
      · simp at hx; subst hx
        exact ⟨hr.lt hl hk, ha kk hk⟩
    refine ⟨by have := hg.size; simp; omega, hk1.2.1, ?_⟩
    rcases hat with hat | hat
    · rw [hat]; exact hk1.2.2
    · rw [hat]; intro he; cases he; omega
theorem Mat.mv (h : Mat w B G f R A cap wx) : MV wx A R.length cap R := ⟨h.own.sv, h.rows⟩
end
end Go.Proofs.YtmfohnchnbgbaaaGreat

/- An amount put into a triangle: the document's walk. -/
namespace Go.Proofs.YtmfohnchnbgbaaaGreat
open Go.RowKit

/-- What Put leaves. -/
def PutT (w : World) (P : Nat → Prop) (f : Int) (c : List (List Int)) (code : Int) (e : Ending) (w' : World) : Prop :=
  Below w.heap.size w w' ∧ ((code ≠ 0 ∧ e = .returned (.tuple #[.agg #[.int .i64 0, .slice none 0 0], .int .i64 code])) ∨
    (code = 0 ∧ ∃ A' c' R, e = .returned (.tuple #[.agg #[.int .i64 f, .slice A' R.length c'], .int .i64 0]) ∧ MV w' A' R.length c' R ∧ allM R = c ∧ (∀ kk, blk A' = some kk → w.heap.size ≤ kk) ∧ ∀ r ∈ R, ∀ kk, blk r.A = some kk → P kk))
def zeroT : Array Value := #[.int .i64 0, .slice none 0 0]
theorem noT_post {w wx : World} {P : Nat → Prop} {f : Int} {c : List (List Int)} {fn : Func} {a : Act} {code : Int} {tr : Tmp} (hz : Blk wx (w.heap.size + 1) 36 zeroT) (hb : Below w.heap.size w wx) (hc : code ≠ 0)
    (hr : fn.results = #[.cell 8 36, .tmp tr]) (hd : a.defers = []) (hp : a.tmps.getD 8 undef = .pointer (some ⟨w.heap.size + 1, 0, none⟩)) (hx : a.tmps.getD tr undef = .int .i64 code) :
    bodyPost Tryz.prog fn (PutT w P f c code) .ret a ((wx.setCell ⟨w.heap.size + 1, 0, none⟩ (.int .i64 0)).setCell ⟨w.heap.size + 1, 1, none⟩ (.slice none 0 0)) := by
  have h2 : Blk ((wx.setCell ⟨w.heap.size + 1, 0, none⟩ (.int .i64 0)).setCell ⟨w.heap.size + 1, 1, none⟩ (.slice none 0 0)) (w.heap.size + 1) 36 zeroT := by
    have := (hz.set_ 0 (.int .i64 0)).set_ 1 (.slice none 0 0)
    simpa [zeroT] using this
  exact ret_row2 hr hd hp hx h2 Tryz.underlying36 rfl (by kernel_rfl) ⟨(hb.setCell (p := ⟨w.heap.size + 1, 0, none⟩) (by simp) _).setCell (p := ⟨w.heap.size + 1, 1, none⟩) (by simp) _, .inl ⟨hc, rfl⟩⟩

end Go.Proofs.YtmfohnchnbgbaaaGreat
