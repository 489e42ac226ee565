/- Part 11 of the proof. -/
import Derived.WalkSpells
import Derived.Deep.MidRow
import Derived.RangeFuncNested
import Derived.RangeFuncBound
import Derived.RangeFuncCalls
import Derived.RangeFuncLeaves
import Derived.RangeFuncBox
import Derived.Shelf.Abstract
import Derived.OwnWalkIn
import Derived.TacticsInMore
import Derived.LoopNIn
import Derived.LoopIn
import Derived.Stop.RegionWithIn
import Derived.Test.YtmfohnchnbgbaaaGreatTcM04
import Derived.Test.YtmfohnchnbgbaaaGreatTcM05
import Derived.Test.YtmfohnchnbgbaaaGreatTcM07
import Derived.Test.YtmfohnchnbgbaaaGreatTcM08
import Derived.Test.YtmfohnchnbgbaaaGreatTcM10
/- The triangle of rows: facts of its cells; its contract from a base on. -/
namespace Go.Proofs.YtmfohnchnbgbaaaGreat
open Go.RowKit

section
variable {w0 w : World} {A : Option Addr} {n cap : Nat} {l : List R3}
def OfB (w0 w : World) (f : Int) (C : List (List Int)) (m : Nat) (e : Ending) (w' : World) : Prop :=
  ∃ A' c' R, e = .returned (.tuple #[.agg #[.int .i64 f, .slice A' m c'], .int .i64 0]) ∧ MV w' A' m c' R ∧ allM R = C ∧ FreshT w A' R ∧ Below w0.heap.size w0 w' ∧ Below w.heap.size w w'
theorem of_yes {f : Int} {C : List (List Int)} {m : Nat} (hs : SV w0 3 A n cap (l.map enc3)) (hb : Below w0.heap.size w0 w) (hE : ofE l = 0) (hf : fromL l = f) (hC : ofC l = C) (hm : C.length = m) :
    Calls Tryz.prog 11 #[.slice A n cap] w (OfB w0 w f C m) := by
  have hn : l.length = n := by have := hs.len; simpa using this
  subst hn hf hC hm
  refine (of_any A cap l w (hs.below hb)).mono fun e w' h => ?_
  rw [hE] at h
  obtain ⟨h1, A', c', R, he, hmv, hr, hfr⟩ := h.yes
  have hl : R.length = (ofC l).length := by rw [← hr, allM_len]
  rw [hl] at he hmv
  exact ⟨A', c', R, he, hmv, hr, hfr, from_base hb h1⟩
theorem of_no {E : Int} (hs : SV w0 3 A n cap (l.map enc3)) (hb : Below w0.heap.size w0 w) (hE : ofE l = E) (h0 : E ≠ 0) :
    Calls Tryz.prog 11 #[.slice A n cap] w fun e w' => e = .returned (.tuple #[.agg #[.int .i64 0, .slice none 0 0], .int .i64 E]) ∧ Below w0.heap.size w0 w' ∧ Below w.heap.size w w' := by
  have hn : l.length = n := by have := hs.len; simpa using this
  subst hn
  refine (of_any A cap l w (hs.below hb)).mono fun e w' h => ?_
  rw [hE] at h
  obtain ⟨h1, he⟩ := h.no h0
  exact ⟨he, from_base hb h1⟩
end

/-- A row that the triangle has a cell for. -/
def Fits (f : Int) (n : Nat) (x : R3) : Prop := f ≤ yrV x.a ∧ idxO f x < n ∧ 0 ≤ devO x ∧ devO x < (n : Int) - idxO f x ∧ 0 ≤ x.m ∧ x.m ≤ 1000000000000000
theorem fits_all {l : List R3} (hc : chkL l = 0) (_hn : l ≠ []) {x : R3} (h : x ∈ l) : Fits (fromL l) (yearsN l) x := by
  have h1 := from_le h
  have h2 := le_to h
  have h3 := chk_yr (chkL_ok.1 hc x h)
  have h4 := chk_ok (chkL_ok.1 hc x h)
  have h5 := from_bd hc
  have h6 := to_bd hc
  unfold Fits idxO devO yearsN
  refine ⟨h1, by omega, by omega, by omega, h4.2.2.2.1, h4.2.2.2.2⟩
theorem ofO_shape {l : List R3} {c : List (List Int)} (hc : chkL l = 0) (h : ofO l = some c) : Shape (yearsN l) c :=
  shape_all (shape_zeros _) (fun x hx => (chk_ok (chkL_ok.1 hc x hx)).2.2.2.1) h
theorem right_shape {f : Int} {n : Nat} {c : List (List Int)} (h : Shape n c) (h1 : 1 ≤ n) (h2 : n ≤ 20) (h3 : 1601 ≤ f) (h4 : f ≤ 2401 - n) : rightC f c = true := by
  obtain ⟨hl, hr⟩ := h
  subst hl
  rw [rightC, Bool.and_eq_true]
  refine ⟨by simp only [boundsB, decide_eq_true_eq]; omega, (rowsB_iff _ _).2 fun i l hx => ?_⟩
  obtain ⟨h5, h6⟩ := hr i l hx
  simp only [goodRow, Bool.and_eq_true, decide_eq_true_eq, List.all_eq_true, okV]
  exact ⟨h5, h6⟩
/-- All that is known where the triangle is made. -/
theorem made {l : List R3} (h : ofE l = 0) : l ≠ [] ∧ chkL l = 0 ∧ ofO l = some (ofC l) ∧ Shape (yearsN l) (ofC l) ∧ rightC (fromL l) (ofC l) = true ∧ 1 ≤ yearsN l ∧ yearsN l ≤ 20 ∧ 1601 ≤ fromL l ∧ fromL l ≤ 2401 ∧ (ofC l).length = yearsN l := by
  obtain ⟨hn, hc, hb, c, ho⟩ := ofE_zero h
  have e : ofC l = c := by rw [ofC, ho]; rfl
  rw [e]
  have hs := ofO_shape hc ho
  have h1 := from_bd hc
  have h2 := to_bd hc
  have h3 := from_to hc hn
  have h4 : 1 ≤ yearsN l := by unfold yearsN; omega
  have h5 : yearsN l ≤ 20 := by unfold yearsN; omega
  have h6 : fromL l ≤ 2401 - (yearsN l : Int) := by unfold yearsN; omega
  exact ⟨hn, hc, ho, hs, right_shape hs h4 h5 h1.1 h6, h4, h5, h1.1, h1.2, hs.1⟩

/-! ### Together it is what was booked -/
def sumI : List Int → Int
  | [] => 0
  | x :: l => x + sumI l
def sumM (l : List R3) : Int := sumI (l.map (·.m))
theorem sumI_app (a b : List Int) : sumI (a ++ b) = sumI a + sumI b := by
  induction a with
  | nil => simp [sumI]
  | cons x a ih => rw [List.cons_append, sumI, sumI, ih]; omega
theorem sumI_set : ∀ {l : List Int} {i : Nat} {v u : Int}, l[i]? = some v → sumI (l.set i u) = sumI l - v + u
  | [], i, v, u, h => by simp at h
  | x :: l, 0, v, u, h => by simp at h; subst h; rw [List.set_cons_zero, sumI, sumI]; omega
  | x :: l, i + 1, v, u, h => by rw [List.set_cons_succ, sumI, sumI, sumI_set (by simpa using h)]; omega
theorem sumI_take {l : List Int} {k : Nat} {v : Int} (h : l[k]? = some v) : sumI (l.take (k + 1)) = sumI (l.take k) + v := by rw [take_of h, sumI_app]; simp [sumI]
theorem sumI_bd {B : Int} : ∀ {l : List Int}, (∀ v ∈ l, 0 ≤ v ∧ v ≤ B) → 0 ≤ sumI l ∧ sumI l ≤ l.length * B
  | [], _ => by simp [sumI]
  | x :: l, h => by
    have h1 := h x (by simp)
    have h2 := sumI_bd (l := l) (fun v hv => h v (by simp [hv]))
    rw [sumI, List.length_cons]
    have : ((l.length + 1 : Nat) : Int) * B = l.length * B + B := by rw [Int.natCast_add, Int.add_mul]; simp
    omega
theorem last_more {dev amt : Int} {r : List Int} (h0 : 0 ≤ dev) (h : dev < r.length) : lastI (moreL dev amt r) = lastI r + amt := by
  have hp : 0 < r.length := by omega
  obtain ⟨v, hv⟩ := get_of (l := r) (k := r.length - 1) (by omega)
  rw [lastI, lastI, List.getLast?_eq_getElem?, List.getLast?_eq_getElem?, moreL_len, moreL_get hv, hv]
  simp only [Option.getD_some, moreF]
  rw [if_pos (by omega)]
theorem diag_all {f : Int} {n : Nat} : ∀ {l : List R3} {c c' : List (List Int)}, Shape n c → (∀ x ∈ l, Fits f n x) → putAll f c l = some c' → sumI (c'.map lastI) = sumI (c.map lastI) + sumM l
  | [], c, c', _, _, h => by simp [putAll] at h; subst h; simp [sumM, sumI]
  | x :: l, c, c', hs, hf, h => by
    rw [putAll] at h
    split at h
    · rename_i hc
      obtain ⟨_, h2, h3, h4, h5, _⟩ := hf x (by simp)
      have := diag_all (shape_step hs h5 hc) (fun y hy => hf y (by simp [hy])) h
      obtain ⟨r, hr⟩ := get_of (l := c) (k := idxO f x) (by rw [hs.1]; exact h2)
      have hl := (hs.2 _ _ hr).1
      have er : rowO f c x = moreL (devO x) x.m r := by rw [rowO, List.getD_eq_getElem?_getD, hr]; rfl
      rw [this, List.map_set, er, last_more h3 (by omega), sumI_set (v := lastI r) (by rw [List.getElem?_map, hr]; rfl), sumM, sumM, List.map_cons, sumI]
      omega
    · cases h
theorem diag_zero (n : Nat) : sumI ((zerosT n).map lastI) = 0 := by
  have : ∀ v ∈ (zerosT n).map lastI, 0 ≤ v ∧ v ≤ 0 := by
    intro v hv
    obtain ⟨r, hr, rfl⟩ := List.mem_map.1 hv
    obtain ⟨i, hi⟩ := List.mem_iff_getElem?.1 hr
    have hlt := lt_of_get hi
    rw [zerosT_len] at hlt
    rw [zerosT_get hlt] at hi
    cases hi
    rw [lastI, List.getLast?_eq_getElem?, List.getElem?_replicate]
    split <;> simp
  have := sumI_bd this
  omega
theorem diag_sum {l : List R3} (h : ofE l = 0) : sumI (diagL (fromL l) (ofC l)) = sumM l := by
  obtain ⟨hn, hc, ho, hs, hr, _⟩ := made h
  rw [diagL, if_pos hr, diag_all (shape_zeros _) (fun x hx => fits_all hc hn hx) ho, diag_zero]
  omega
theorem diag_bd {f : Int} {c : List (List Int)} {v : Int} (h : v ∈ diagL f c) : 0 ≤ v ∧ v ≤ 100000000000000000 := by
  unfold diagL at h
  split at h
  · rename_i hr
    obtain ⟨r, hm, rfl⟩ := List.mem_map.1 h
    obtain ⟨i, hi⟩ := List.mem_iff_getElem?.1 hm
    obtain ⟨h1, h2⟩ := right_row hr hi
    have := lt_of_get hi
    obtain ⟨v, hv⟩ := get_of (l := r) (k := r.length - 1) (by omega)
    rw [lastI, List.getLast?_eq_getElem?, hv]
    exact h2 v (List.mem_of_getElem? hv)
  · simp at h

/-! ### No row falls -/
end Go.Proofs.YtmfohnchnbgbaaaGreat

/- The triangle of rows as one value; it hangs not on their order. -/
namespace Go.Proofs.YtmfohnchnbgbaaaGreat
open Go.RowKit

section
variable {w0 w : World} {A : Option Addr} {n cap : Nat} {l : List R3}
end
/-- What was booked for a cell. -/
def tot (f : Int) : List R3 → Nat → Nat → Int
  | [], _, _ => 0
  | x :: l, i, k => (if idxO f x = i ∧ devO x ≤ (k : Int) then x.m else 0) + tot f l i k
end Go.Proofs.YtmfohnchnbgbaaaGreat

/- Copies: of factors, of bands, of versions; a version of its own. -/
namespace Go.Proofs.YtmfohnchnbgbaaaGreat
open Go.RowKit

/-- A slice in a world in which its block lies as it lay. -/
theorem SV.only {w w' : World} {sz n cap : Nat} {A : Option Addr} {rows : List (List Value)} (h : SV w sz A n cap rows) (hk : ∀ b, blk A = some b → w'.heap[b]? = w.heap[b]?) (hsz : w.heap.size ≤ w'.heap.size) : SV w' sz A n cap rows := by
  refine ⟨fun i r hr => ?_, h.len, h.le, h.most, h.nil⟩
  obtain ⟨b, off, hA, hb, hc⟩ := h.sl i r hr
  refine ⟨b, off, hA, by omega, fun j u hu => ?_⟩
  rw [World.cell?_of_block (w := w) (hk b (by rw [hA]; rfl))]
  exact hc j u hu
theorem VOK.only {w w' : World} {x : Vw} (h : VOK w x) (hk : ∀ b, (blk x.aA = some b ∨ blk x.zA = some b ∨ blk x.pA = some b) → w'.heap[b]? = w.heap[b]?) (hsz : w.heap.size ≤ w'.heap.size) : VOK w' x :=
  ⟨h.age.only (fun b hb => hk b (.inl hb)) hsz, h.zone.only (fun b hb => hk b (.inr (.inl hb))) hsz, h.peril.only (fun b hb => hk b (.inr (.inr hb))) hsz⟩
end Go.Proofs.YtmfohnchnbgbaaaGreat

/- The order of changes, where there is one at most. -/
namespace Go.Proofs.YtmfohnchnbgbaaaGreat
open Go.RowKit

/-- The places of changes, in order. -/
def encN (k : Nat) : List Value := [.int .i64 k]
def OrdP (O : List Nat) (w : World) (e : Ending) (w' : World) : Prop := ∃ (A : Option Addr) (cap : Nat), e = .returned (.slice A O.length cap) ∧ SV w' 1 A O.length cap (O.map encN) ∧ (∀ b, blk A = some b → w.heap.size ≤ b ∧ b < w'.heap.size) ∧ Below w.heap.size w w'
end Go.Proofs.YtmfohnchnbgbaaaGreat

/- What a change does to what holds. -/
namespace Go.Proofs.YtmfohnchnbgbaaaGreat
open Go.RowKit

def encSc (x : Sc) : List Value := [.int .i64 x.f, .int .i64 x.t, .bool x.on, .int .i64 x.rk, .int .i64 x.rv, .int .i64 x.ra, .int .i64 x.rz, .slice x.A x.l.length x.cap, .int .i64 x.y]
/-- What holds, wherever its covers lie. -/
structure Sp where
  f : Int
  t : Int
  on : Bool
  rk : Int
  rv : Int
  ra : Int
  rz : Int
  l : List Cv
  y : Int
def Sc.v (x : Sc) : Sp := ⟨x.f, x.t, x.on, x.rk, x.rv, x.ra, x.rz, x.l, x.y⟩
/-- What the walk of the slices keeps: the box of those that are made, their covers, all apart. -/
structure CR (w0 wB : World) (G H : Nat) (ks out : List Sc) (A : Option Addr) (cap : Nat) (w : World) : Prop where
  bo : Blk w H 72 #[.slice A out.length cap]
  own : OwnS w wB.heap.size 87 9 A out.length cap (out.map encSc)
  sv : ∀ x ∈ ks, SV w 5 x.A x.l.length x.cap (x.l.map encCv)
  ap : ∀ x ∈ ks, ∀ b, blk x.A = some b → b ≠ G ∧ b ≠ H ∧ blk A ≠ some b
  be : Below w0.heap.size w0 w
  ge : w0.heap.size ≤ G
  lt : H < w.heap.size
  gh : G < H
  al : ∀ x ∈ ks, ∀ b, blk x.A = some b → b < w.heap.size
  hb : H < wB.heap.size
  sz : wB.heap.size ≤ w.heap.size
  fr : ∀ b, b < wB.heap.size → b ≠ G → b ≠ H → w.heap[b]? = wB.heap[b]?
section
variable {w0 wB w w' : World} {G H cap : Nat} {ks out : List Sc} {A : Option Addr}
theorem CR.below (h : CR w0 wB G H ks out A cap w) (hb : Below w.heap.size w w') : CR w0 wB G H ks out A cap w' :=
  ⟨h.bo.below hb h.bo.lt, h.own.below hb, fun x hx => (h.sv x hx).below hb, h.ap, chain h.be hb, h.ge, Nat.lt_of_lt_of_le h.lt hb.size, h.gh, fun x hx b hq => Nat.lt_of_lt_of_le (h.al x hx b hq) hb.size, h.hb, Nat.le_trans h.sz hb.size, fun b h1 h2 h3 => (hb.block b (Nat.lt_of_lt_of_le h1 h.sz)).trans (h.fr b h1 h2 h3)⟩
theorem SV.setFar {sz n cap : Nat} {A : Option Addr} {rows : List (List Value)} (h : SV w sz A n cap rows) {p : Addr} (hp : ∀ b, blk A = some b → b ≠ p.block) (u : Value) : SV (w.setCell p u) sz A n cap rows :=
  h.only (fun b hb => heap_setCell_other w p b u (hp b hb)) (by simp)
theorem CR.alloc (h : CR w0 wB G H ks out A cap w) (o : Obj) : CR w0 wB G H ks out A cap (w.alloc o) := h.below ((Below.refl _ _).alloc (Nat.le_refl _) o)
/-- One key more, whose covers the call has just made. -/
theorem CR.key (h : CR w0 wB G H ks out A cap w) {x : Sc} {e : TypeId} {W : World} (hz : H < W.heap.size) (hA : ∀ k, blk A = some k → k < W.heap.size) (ho : OwnS w W.heap.size e 5 x.A x.l.length x.cap (x.l.map encCv)) : CR w0 wB G H (x :: ks) out A cap w :=
  ⟨h.bo, h.own, fun y hy => by
    rcases List.mem_cons.1 hy with rfl | hy
    · exact ho.sv
    · exact h.sv y hy, fun y hy b hb => by
    rcases List.mem_cons.1 hy with rfl | hy
    · have := (ho.lt b hb).1
      have := h.gh
      refine ⟨by omega, by omega, fun hb2 => ?_⟩
      have := hA b hb2
      omega
    · exact h.ap y hy b hb, h.be, h.ge, h.lt, h.gh, fun y hy b hb => by
    rcases List.mem_cons.1 hy with rfl | hy
    · exact (ho.lt b hb).2
    · exact h.al y hy b hb, h.hb, h.sz, h.fr⟩
end
end Go.Proofs.YtmfohnchnbgbaaaGreat

/- Where what holds ends: a slice more, or the last one longer. -/
namespace Go.Proofs.YtmfohnchnbgbaaaGreat
open Go.RowKit

theorem nil_or_snoc {α : Type} (l : List α) : l = [] ∨ ∃ (r : List α) (x : α), l = r ++ [x] := by
  rcases List.eq_nil_or_concat l with h | ⟨r, x, h⟩
  · exact .inl h
  · exact .inr ⟨r, x, by rw [h, List.concat_eq_append]⟩
theorem CR.last {w0 wB w : World} {G H cap g : Nat} {ks r : List Sc} {last : Sc} {d : Int} (h : CR w0 wB G H ks (r ++ [last]) (some ⟨g, 0, none⟩) cap w) : CR w0 wB G H ks (r ++ [{ last with t := d }]) (some ⟨g, 0, none⟩) cap (w.setCell ⟨g, r.length * 9 + 1, none⟩ (.int .i64 d)) := by
  have hA := h.own.lt g rfl
  have hgh := h.gh
  have hhb := h.hb
  refine ⟨?_, ?_, fun x hx => (h.sv x hx).setFar (fun b hb => fun e => (h.ap x hx b hb).2.2 (by rw [e]; rfl)) _, h.ap, h.be.setCell (by have := h.ge; have := h.gh; have := h.hb; simp; omega) _, h.ge, by simpa using h.lt, h.gh, fun x hx b hb => by simpa using h.al x hx b hb, h.hb, by simpa using h.sz, fun b h1 h2 h3 => (heap_setCell_other w ⟨g, r.length * 9 + 1, none⟩ b _ (by simp; omega)).trans (h.fr b h1 h2 h3)⟩
  · have := h.bo.far (p := ⟨g, r.length * 9 + 1, none⟩) (by simp; omega) (.int .i64 d)
    simpa using this
  · have hrow : ((r ++ [last]).map encSc)[r.length]? = some (encSc last) := by simp
    have := h.own.set_ (i := r.length) (j := 1) (row := encSc last) hrow (by omega) (u := .int .i64 d) rfl
    rw [show ((r ++ [last]).map encSc).set r.length ((encSc last).set 1 (.int .i64 d)) = (r ++ [{ last with t := d }]).map encSc by
      rw [List.map_append, List.map_append, List.set_append_right _ _ (by simp)]
      simp [encSc]] at this
    simpa using this

end Go.Proofs.YtmfohnchnbgbaaaGreat

/- What holds, from day to day. -/
namespace Go.Proofs.YtmfohnchnbgbaaaGreat
open Go.RowKit

section
variable {w : World} {g : Nat} {v0 v1 v2 v3 v4 v5 v6 v7 v8 : Value}
end
/-- What lies behind: the slices that were made. -/
structure Made (w' : World) (B : Nat) (A : Option Addr) (cap : Nat) (out : List Sc) : Prop where
  own : OwnS w' B 87 9 A out.length cap (out.map encSc)
  sv : ∀ x ∈ out, SV w' 5 x.A x.l.length x.cap (x.l.map encCv)
  ap : ∀ x ∈ out, ∀ b, blk x.A = some b → blk A ≠ some b
end Go.Proofs.YtmfohnchnbgbaaaGreat

/- The version of a day: the program's: the iterator that goes backward. -/
namespace Go.Proofs.YtmfohnchnbgbaaaGreat
open Go.RowKit Go.Shelf
attribute [local go_sem] Oper.semAt_some

def LenV (x : Vw) : Prop := x.age.length ≤ 1000000 ∧ x.zone.length ≤ 1000000 ∧ x.peril.length ≤ 1000000
/-- What comes, round by round: a place and a version. -/
abbrev It (w0 : World) := { p : Int × Vw // VOK w0 p.2 ∧ LenV p.2 }
end Go.Proofs.YtmfohnchnbgbaaaGreat

/- The version of a day: the program's walk. -/
namespace Go.Proofs.YtmfohnchnbgbaaaGreat
open Go.RowKit Go.Shelf
attribute [local go_sem] Oper.semAt_some

theorem Blk.kept_ {W W' : World} {row : Option Nat} {g : Nat} {t : TypeId} {cs : Array Value} (h : Blk W g t cs) (hg : W.grownBy W' row) (hr : ∀ r, row = some r → ∃ o : Obj, W.heap[r]? = some o ∧ o.isCells = false) : Blk W' g t cs :=
  (grownBy_keeps_cells hg hr (k := g) h rfl).trans h
theorem SV.kept_ {W W' : World} {row : Option Nat} {sz n cap : Nat} {A : Option Addr} {rows : List (List Value)} (h : SV W sz A n cap rows) (hg : W.grownBy W' row) (hr : ∀ r, row = some r → ∃ o : Obj, W.heap[r]? = some o ∧ o.isCells = false) : SV W' sz A n cap rows := by
  refine ⟨fun i r hx => ?_, h.len, h.le, h.most, h.nil⟩
  obtain ⟨b, off, hA, hb, hc⟩ := h.sl i r hx
  have := hg.size
  exact ⟨b, off, hA, by omega, fun j u hu => cell_kept (hc j u hu) hg hr⟩
theorem VOK.kept_ {W W' : World} {row : Option Nat} {x : Vw} (h : VOK W x) (hg : W.grownBy W' row) (hr : ∀ r, row = some r → ∃ o : Obj, W.heap[r]? = some o ∧ o.isCells = false) : VOK W' x :=
  ⟨h.age.kept_ hg hr, h.zone.kept_ hg hr, h.peril.kept_ hg hr⟩

/-- Between two rounds; a round has left. -/
def IA (w w6 : World) (d : Int) (pre : List (It w)) (W : World) : Prop := (∀ z ∈ pre, d < z.1.2.f) ∧ Below w6.heap.size w6 W
def IxA (w : World) (d : Int) (c : Code) (pre : List (It w)) (W : World) : Prop := (c = .ret ∧ ∃ ini last, pre = ini ++ [last] ∧ (∀ z ∈ ini, d < z.1.2.f) ∧ last.1.2.f ≤ d ∧ ∃ y : Vw, y.v = last.1.2.v ∧ VOK W y ∧ Blk W (w.heap.size + 1 + 1) 83 (boxV y) ∧ Blk W (w.heap.size + 1 + 1 + 1) 31 #[.int .i64 0]) ∧ Below w.heap.size w W
theorem IA.own (w w6 : World) (d : Int) : OwnFrom w6.heap.size (IA w w6 d) := OwnFrom.and (ownFrom_pure _ _) (ownFrom_below (Nat.le_refl _) (Nat.le_refl _))
theorem IxA.own (w : World) (d : Int) (B : Nat) (hB : w.heap.size ≤ B) (c : Code) : OwnFrom B (IxA w d c) := OwnFrom.and (Own.from (fun s X Y row hs hg hr => by
      obtain ⟨hc, ini, last, e1, e2, e3, y, e4, e5, e6, e7⟩ := hs
      exact ⟨hc, ini, last, e1, e2, e3, y, e4, e5.kept_ hg hr, e6.kept_ hg hr, e7.kept_ hg hr⟩) _) (ownFrom_below (Nat.le_refl _) hB)

end Go.Proofs.YtmfohnchnbgbaaaGreat

/- A policy's slices, with what they cost. -/
namespace Go.Proofs.YtmfohnchnbgbaaaGreat
open Go.RowKit

section
variable {w w' : World} {B cap : Nat} {A : Option Addr} {out : List Sc}
theorem Made.below (h : Made w B A cap out) (hb : Below w.heap.size w w') : Made w' B A cap out := ⟨h.own.below hb, fun x hx => (h.sv x hx).below hb, h.ap⟩
theorem Made.set_ {g k : Nat} {x : Sc} {y : Int} (h : Made w B (some ⟨g, 0, none⟩) cap out) (hx : out[k]? = some x) : Made (w.setCell ⟨g, k * 9 + 8, none⟩ (.int .i64 y)) B (some ⟨g, 0, none⟩) cap (out.set k { x with y := y }) := by
  have hrow : (out.map encSc)[k]? = some (encSc x) := by simp [hx]
  have ho := h.own.set_ (i := k) (j := 8) hrow (by omega) (u := .int .i64 y) rfl
  have hmem := List.mem_of_getElem? hx
  have hcov : ∀ z ∈ out.set k { x with y := y }, ∃ z' ∈ out, z.A = z'.A ∧ z.l = z'.l ∧ z.cap = z'.cap := by
    intro z hz
    rcases List.mem_or_eq_of_mem_set hz with hz | rfl
    · exact ⟨z, hz, rfl, rfl, rfl⟩
    · exact ⟨x, hmem, rfl, rfl, rfl⟩
  refine ⟨?_, fun z hz => ?_, fun z hz b hb => ?_⟩
  · rw [List.length_set]
    rw [show (out.map encSc).set k ((encSc x).set 8 (.int .i64 y)) = (out.set k { x with y := y }).map encSc by rw [List.map_set]; rfl] at ho
    exact ho
  · obtain ⟨z', hz', e1, e2, e3⟩ := hcov z hz
    rw [e1, e2, e3]
    exact (h.sv z' hz').setFar (fun b hb e => h.ap z' hz' b hb (by rw [e]; rfl)) _
  · obtain ⟨z', hz', e1, e2, e3⟩ := hcov z hz
    rw [e1] at hb
    exact h.ap z' hz' b hb
end
/-- What is asked of the changes' order. -/
structure Ordd (w : World) (h : Hi) (L : List Ch) : Prop where
  ex : ∃ O : List Nat, O.length ≤ 2000 ∧ (∀ (j o : Nat), O[j]? = some o → ∃ c, h.cs[o]? = some c ∧ L[j]? = some c) ∧ L.length = O.length ∧ ∀ W, Below w.heap.size w W → Calls Tryz.prog 80 #[.agg #[.int .i64 h.id, .int .i64 h.bk, .int .i64 h.tm.f, .int .i64 h.tm.t, .int .i64 h.tm.k, .int .i64 h.tm.v, .int .i64 h.tm.a, .int .i64 h.tm.z, .slice h.tm.A h.tm.l.length h.tm.cap, .slice h.A h.cs.length h.cap]] W (OrdP O W)
theorem Ordd.below {w w' : World} {h : Hi} {L : List Ch} (ho : Ordd w h L) (hb : Below w.heap.size w w') : Ordd w' h L := by
  obtain ⟨O, h1, h2, h3, h4⟩ := ho.ex
  exact ⟨O, h1, h2, h3, fun W hW => h4 W (chain hb hW)⟩
end Go.Proofs.YtmfohnchnbgbaaaGreat

/- Steps: whether one may be; its value on a day. -/
namespace Go.Proofs.YtmfohnchnbgbaaaGreat
open Go.RowKit

/-- How many are less, of a list that rises. -/
def Ris : List Int → Prop
  | [] => True
  | [_] => True
  | a :: b :: r => a < b ∧ Ris (b :: r)
theorem Ris.tail {a : Int} {l : List Int} (h : Ris (a :: l)) : Ris l := by
  cases l with
  | nil => trivial
  | cons b r => exact h.2
end Go.Proofs.YtmfohnchnbgbaaaGreat

/- The pieces of a step: the iterator. -/
namespace Go.Proofs.YtmfohnchnbgbaaaGreat
open Go.RowKit Go.Shelf
attribute [local go_sem] Oper.semAt_some

/-- A piece: its span, its value. -/
def okPc (p : Int × Int × Int) : Prop := 1 ≤ p.1 ∧ p.1 < p.2.1 ∧ p.2.1 ≤ 292195 ∧ -4000000000000000000 ≤ p.2.2 ∧ p.2.2 ≤ 4000000000000000000
abbrev Pc := { p : Int × Int × Int // okPc p }
/-- What a round keeps: all below B0, and the two boxes. -/
structure KpS (B0 Bs Bf : Nat) (W W' : World) : Prop where
  b : Below B0 W W'
  s : W'.heap[Bs]? = W.heap[Bs]?
  f : W'.heap[Bf]? = W.heap[Bf]?
theorem KpS.refl (B0 Bs Bf : Nat) (W : World) : KpS B0 Bs Bf W W := ⟨Below.refl _ _, rfl, rfl⟩
theorem KpS.trans {B0 Bs Bf : Nat} {A B C : World} (h : KpS B0 Bs Bf A B) (k : KpS B0 Bs Bf B C) : KpS B0 Bs Bf A C := ⟨h.b.trans k.b, k.s.trans h.s, k.f.trans h.f⟩
theorem KpS.below {B0 Bs Bf : Nat} {W W' : World} (h : Below W.heap.size W W') (h0 : B0 ≤ W.heap.size) (h1 : Bs < W.heap.size) (h2 : Bf < W.heap.size) : KpS B0 Bs Bf W W' := ⟨h.mono h0, h.block _ h1, h.block _ h2⟩
theorem KpS.put {B0 Bs Bf : Nat} {w : World} (h0 : B0 ≤ w.heap.size) (h1 : Bs < w.heap.size) (h2 : Bf < w.heap.size) (W : World) (l : Nat) (o o' : Obj) (hl : w.heap.size ≤ l) (h : W.heap[l]? = some o) (hc : o.isCells = false) (hw : o.isWalk = false) : KpS B0 Bs Bf W (W.putObj l o') := by
  have hlt := (Array.getElem?_eq_some_iff.1 h).1
  have hg := grownBy_putObj' W l o'
  exact ⟨belowK_b h0 W l o o' hl h hc hw, hg.block Bs (by omega) (fun e => by cases e; omega), hg.block Bf (by omega) (fun e => by cases e; omega)⟩
end Go.Proofs.YtmfohnchnbgbaaaGreat

/- What a step's values are together. -/
namespace Go.Proofs.YtmfohnchnbgbaaaGreat
open Go.RowKit Go.Shelf
attribute [local go_sem] Oper.semAt_some

def stepS (st : Option (Int × Int)) (x : Pc) : Option (Int × Int) :=
  match st with
  | none => none
  | some (s, al) => if (4000000000000000000 - al) / (x.1.2.1 - x.1.1) < max x.1.2.2 (-x.1.2.2) then none else some (s + (x.1.2.1 - x.1.1) * x.1.2.2, al + (x.1.2.1 - x.1.1) * max x.1.2.2 (-x.1.2.2))
def runS (l : List Pc) : Option (Int × Int) := l.foldl stepS (some (0, 0))
/-- Between two rounds; a round has left. -/
def ISa (S N : Nat) (pre : List Pc) (W : World) : Prop := ∃ s al : Int, runS pre = some (s, al) ∧ -al ≤ s ∧ s ≤ al ∧ 0 ≤ al ∧ al ≤ 4000000000000000000 ∧ Blk W S 3 #[.int .i64 s] ∧ Blk W (S + 1) 3 #[.int .i64 al] ∧ N ≤ W.heap.size
def IS (w6 : World) (N : Nat) (pre : List Pc) (W : World) : Prop := ISa w6.heap.size N pre W ∧ Below w6.heap.size w6 W
def IxSa (G : Nat) (c : Code) (pre : List Pc) (W : World) : Prop := c = .ret ∧ runS pre = none ∧ Blk W G 3 #[.int .i64 0] ∧ Blk W (G + 1) 31 #[.int .i64 5]
def IxS (w : World) (c : Code) (pre : List Pc) (W : World) : Prop := IxSa (w.heap.size + 1 + 1) c pre W ∧ Below w.heap.size w W
theorem IS.own (w6 : World) (N B : Nat) (hB : w6.heap.size ≤ B) : OwnFrom B (IS w6 N) := OwnFrom.and (Own.from (fun s X Y row hs hg hr => by
      obtain ⟨s', al, e1, e2, e3, e4, e5, e6, e7, e8⟩ := hs
      exact ⟨s', al, e1, e2, e3, e4, e5, e6.kept_ hg hr, e7.kept_ hg hr, Nat.le_trans e8 hg.size⟩) _) (ownFrom_below (Nat.le_refl _) hB)
theorem IxS.own (w : World) (B : Nat) (hB : w.heap.size ≤ B) (c : Code) : OwnFrom B (IxS w c) := OwnFrom.and (Own.from (fun s X Y row hs hg hr => by
      obtain ⟨e1, e2, e3, e4⟩ := hs
      exact ⟨e1, e2, e3.kept_ hg hr, e4.kept_ hg hr⟩) _) (ownFrom_below (Nat.le_refl _) hB)
section
variable {F : Fence} {n : Nat} {fn : Func} {R : Ending → World → Prop} {tmps : Array Value} {W : World} {p q : Tmp} {D g g2 : Nat} {t u : TypeId} {x y : Value}
end
end Go.Proofs.YtmfohnchnbgbaaaGreat

/- What is earned: one place more of the curve. -/
namespace Go.Proofs.YtmfohnchnbgbaaaGreat
open Go.RowKit

structure FS (w : World) (B F : Nat) (A A2 : Option Addr) (c c2 : Nat) (s : List Int × List Int) : Prop where
  f : Blk w F 132 #[.slice A s.1.length c, .slice A2 s.2.length c2]
  o1 : OwnS w B 3 1 A s.1.length c (s.1.map encI)
  o2 : OwnS w B 3 1 A2 s.2.length c2 (s.2.map encI)
  ap : ∀ k, blk A = some k → blk A2 ≠ some k
  gt : F < B
  sz : B ≤ w.heap.size
  ln : s.1.length = s.2.length
theorem FS.fin {wd : World} {B F c3 c4 n1 : Nat} {A3 A4 : Option Addr} {x0 x1 : Value} {a1 v1 : List Int} {d v : Int} (hF : Blk wd F 132 #[x0, x1]) (o3 : OwnS wd B 3 1 A3 (n1 + 1) c3 (a1.map encI ++ [d].map encI)) (o4 : OwnS wd B 3 1 A4 (n1 + 1) c4 (v1.map encI ++ [v].map encI))
    (ap : ∀ k, blk A3 = some k → blk A4 ≠ some k) (gt : F < B) (sz : B ≤ wd.heap.size) (h1 : a1.length = n1) (h2 : v1.length = n1) : FS ((wd.setCell ⟨F, 0, none⟩ (.slice A3 (n1 + 1) c3)).setCell ⟨F, 1, none⟩ (.slice A4 (n1 + 1) c4)) B F A3 A4 c3 c4 (a1 ++ [d], v1 ++ [v]) := by
  have h3 := o3.lt
  have h4 := o4.lt
  refine ⟨?_, ?_, ?_, ap, gt, by simpa using sz, by simp [h1, h2]⟩
  · have := (hF.set_ 0 (.slice A3 (n1 + 1) c3)).set_ 1 (.slice A4 (n1 + 1) c4)
    simpa [h1, h2] using this
  · have := (o3.far (p := ⟨F, 0, none⟩) (fun k hk => by have := h3 k hk; simp; omega) (.slice A3 (n1 + 1) c3)).far (p := ⟨F, 1, none⟩) (fun k hk => by have := h3 k hk; simp; omega) (.slice A4 (n1 + 1) c4)
    simpa [h1] using this
  · have := (o4.far (p := ⟨F, 0, none⟩) (fun k hk => by have := h4 k hk; simp; omega) (.slice A3 (n1 + 1) c3)).far (p := ⟨F, 1, none⟩) (fun k hk => by have := h4 k hk; simp; omega) (.slice A4 (n1 + 1) c4)
    simpa [h2] using this
theorem FS.drew {w : World} {B F : Nat} {A A2 : Option Addr} {c c2 : Nat} {s : List Int × List Int} (h : FS w B F A A2 c c2 s) : FS w.drew B F A A2 c c2 s := ⟨h.f.drew, h.o1.drew, h.o2.drew, h.ap, h.gt, h.sz, h.ln⟩
end Go.Proofs.YtmfohnchnbgbaaaGreat
