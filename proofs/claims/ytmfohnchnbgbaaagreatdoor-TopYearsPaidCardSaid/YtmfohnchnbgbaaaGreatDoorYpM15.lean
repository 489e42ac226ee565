/- Part 15 of the proof. -/
import Derived.Test.YtmfohnchnbgbaaaGreatDoorYpM14
/- What a change does to what holds. -/
namespace Go.Proofs.YtmfohnchnbgbaaaGreatDoor
open Go.RowKit

theorem elCov : ElT Tryz.prog 59 41 5 40 := ElT.mk' (z := .agg #[.int .i64 0, .int .i64 0, .int .i64 0, .int .i64 0, .int .i64 0]) Tryz.underlying59 (by kernel_rfl) rfl (by omega)
theorem elSlc : ElT Tryz.prog 71 121 9 88 := ElT.mk' (z := .agg #[.int .i64 0, .int .i64 0, .bool false, .int .i64 0, .int .i64 0, .int .i64 0, .int .i64 0, .slice none 0 0, .int .i64 0]) Tryz.underlying71 (by kernel_rfl) rfl (by omega)
theorem okCov (l : List Cv) : RowsOk 5 (l.map encCv) := by
  intro r hr
  obtain ⟨x, -, rfl⟩ := List.mem_map.1 hr
  refine ⟨rfl, fun u hu => ?_⟩
  simp [encCv] at hu
  rcases hu with rfl | rfl | rfl | rfl | rfl <;> rfl
def encSc (x : Sc) : List Value := [.int .i64 x.f, .int .i64 x.t, .bool x.on, .int .i64 x.rk, .int .i64 x.rv, .int .i64 x.ra, .int .i64 x.rz, .slice x.A x.l.length x.cap, .int .i64 x.y]
theorem okSlc (l : List Sc) : RowsOk 9 (l.map encSc) := by
  intro r hr
  obtain ⟨x, -, rfl⟩ := List.mem_map.1 hr
  refine ⟨rfl, fun u hu => ?_⟩
  simp [encSc] at hu
  rcases hu with rfl | rfl | rfl | rfl | rfl | rfl | rfl | rfl | rfl <;> rfl
/-- What holds, wherever its covers lie. -/
structure Sp where
  f : Int
  t : Int
  on : Bool
  rk : Int
  rv : Int
  ra : Int
  rz : Int
  l : List Cv
  y : Int
def Sc.v (x : Sc) : Sp := ⟨x.f, x.t, x.on, x.rk, x.rv, x.ra, x.rz, x.l, x.y⟩
def doesV (x : Sp) (c : Ch) : Sp :=
  if c.k = 1 then { x with rk := c.rk, rv := c.rv, ra := c.ra, rz := c.rz } else if c.k = 2 then { x with l := c.l } else if c.k = 3 then { x with on := false } else if c.k = 4 then { x with on := true } else x
/-- What the walk of the slices keeps: the box of those that are made, their covers, all apart. -/
structure CR (w0 wB : World) (G H : Nat) (ks out : List Sc) (A : Option Addr) (cap : Nat) (w : World) : Prop where
  bo : Blk w H 71 #[.slice A out.length cap]
  own : OwnS w wB.heap.size 121 9 A out.length cap (out.map encSc)
  sv : ∀ x ∈ ks, SV w 5 x.A x.l.length x.cap (x.l.map encCv)
  ap : ∀ x ∈ ks, ∀ b, blk x.A = some b → b ≠ G ∧ b ≠ H ∧ blk A ≠ some b
  be : Below w0.heap.size w0 w
  ge : w0.heap.size ≤ G
  lt : H < w.heap.size
  gh : G < H
  al : ∀ x ∈ ks, ∀ b, blk x.A = some b → b < w.heap.size
  hb : H < wB.heap.size
  sz : wB.heap.size ≤ w.heap.size
  fr : ∀ b, b < wB.heap.size → b ≠ G → b ≠ H → w.heap[b]? = wB.heap[b]?
section
variable {w0 wB w w' : World} {G H cap : Nat} {ks out : List Sc} {A : Option Addr}
theorem CR.below (h : CR w0 wB G H ks out A cap w) (hb : Below w.heap.size w w') : CR w0 wB G H ks out A cap w' :=
  ⟨h.bo.below hb h.bo.lt, h.own.below hb, fun x hx => (h.sv x hx).below hb, h.ap, chain h.be hb, h.ge, Nat.lt_of_lt_of_le h.lt hb.size, h.gh, fun x hx b hq => Nat.lt_of_lt_of_le (h.al x hx b hq) hb.size, h.hb, Nat.le_trans h.sz hb.size, fun b h1 h2 h3 => (hb.block b (Nat.lt_of_lt_of_le h1 h.sz)).trans (h.fr b h1 h2 h3)⟩
theorem SV.setFar {sz n cap : Nat} {A : Option Addr} {rows : List (List Value)} (h : SV w sz A n cap rows) {p : Addr} (hp : ∀ b, blk A = some b → b ≠ p.block) (u : Value) : SV (w.setCell p u) sz A n cap rows :=
  h.only (fun b hb => heap_setCell_other w p b u (hp b hb)) (by simp)
theorem CR.setG (h : CR w0 wB G H ks out A cap w) (i : Nat) (u : Value) : CR w0 wB G H ks out A cap (w.setCell ⟨G, i, none⟩ u) :=
  ⟨h.bo.far (by have := h.gh; simp; omega) u, h.own.far (fun k hk => by have := (h.own.lt k hk).1; have := h.gh; have := h.hb; simp; omega) u, fun x hx => (h.sv x hx).setFar (fun b hb => (h.ap x hx b hb).1) u, h.ap, h.be.setCell h.ge u, h.ge, by simpa using h.lt, h.gh, fun x hx b hq => by simpa using h.al x hx b hq, h.hb, by simpa using h.sz, fun b h1 h2 h3 => (heap_setCell_other w ⟨G, i, none⟩ b u h2).trans (h.fr b h1 h2 h3)⟩
theorem CR.alloc (h : CR w0 wB G H ks out A cap w) (o : Obj) : CR w0 wB G H ks out A cap (w.alloc o) := h.below ((Below.refl _ _).alloc (Nat.le_refl _) o)
theorem CR.keys (h : CR w0 wB G H ks out A cap w) {ks' : List Sc} (hk : ∀ x ∈ ks', ∃ y ∈ ks, x.A = y.A ∧ x.l = y.l ∧ x.cap = y.cap) : CR w0 wB G H ks' out A cap w :=
  ⟨h.bo, h.own, fun x hx => by
    obtain ⟨y, hy, e1, e2, e3⟩ := hk x hx
    rw [e1, e2, e3]; exact h.sv y hy, fun x hx b hb => by
    obtain ⟨y, hy, e1, e2, e3⟩ := hk x hx
    rw [e1] at hb; exact h.ap y hy b hb, h.be, h.ge, h.lt, h.gh, fun x hx b hb => by
    obtain ⟨y, hy, e1, e2, e3⟩ := hk x hx
    rw [e1] at hb; exact h.al y hy b hb, h.hb, h.sz, h.fr⟩
/-- One key more, whose covers the call has just made. -/
theorem CR.key (h : CR w0 wB G H ks out A cap w) {x : Sc} {e : TypeId} {W : World} (hz : H < W.heap.size) (hA : ∀ k, blk A = some k → k < W.heap.size) (ho : OwnS w W.heap.size e 5 x.A x.l.length x.cap (x.l.map encCv)) : CR w0 wB G H (x :: ks) out A cap w :=
  ⟨h.bo, h.own, fun y hy => by
    rcases List.mem_cons.1 hy with rfl | hy
    · exact ho.sv
    · exact h.sv y hy, fun y hy b hb => by
    rcases List.mem_cons.1 hy with rfl | hy
    · have := (ho.lt b hb).1
      have := h.gh
      refine ⟨by omega, by omega, fun hb2 => ?_⟩
      have := hA b hb2
      omega
    · exact h.ap y hy b hb, h.be, h.ge, h.lt, h.gh, fun y hy b hb => by
    rcases List.mem_cons.1 hy with rfl | hy
    · exact (ho.lt b hb).2
    · exact h.al y hy b hb, h.hb, h.sz, h.fr⟩
end
theorem sub_now {now x : Sc} {out : List Sc} (h1 : x.A = now.A) (h2 : x.l = now.l) (h3 : x.cap = now.cap) : ∀ y ∈ x :: out, ∃ z ∈ now :: out, y.A = z.A ∧ y.l = z.l ∧ y.cap = z.cap := by
  intro y hy
  rcases List.mem_cons.1 hy with rfl | hy
  · exact ⟨now, by simp, h1, h2, h3⟩
  · exact ⟨y, by simp [hy], rfl, rfl, rfl⟩
def DoesP (w0 wB : World) (G H : Nat) (now : Sc) (out : List Sc) (A : Option Addr) (cap : Nat) (c : Ch) (e : Ending) (w' : World) : Prop :=
  e = .returned (.tuple #[]) ∧ ∃ x : Sc, x.v = doesV now.v c ∧ Blk w' G 121 (scC x) ∧ CR w0 wB G H (x :: out) out A cap w'

set_option maxRecDepth 100000 in
set_option maxHeartbeats 2000000 in
theorem does_any (w0 wB : World) (G H : Nat) (now : Sc) (out : List Sc) (A : Option Addr) (cap : Nat) (c : Ch) (w : World) (hB : Blk w G 121 (scC now)) (hR : CR w0 wB G H (now :: out) out A cap w)
    (hs : SV w 5 c.A c.l.length c.cap (c.l.map encCv)) (hl : c.k = 2 → c.l.length ≤ 8) :
    Calls Tryz.prog 75 #[.pointer (some ⟨G, 0, none⟩), .agg #[.int .i64 c.b, .int .i64 c.d, .int .i64 c.k, .int .i64 c.rk, .int .i64 c.rv, .int .i64 c.ra, .int .i64 c.rz, .slice c.A c.l.length c.cap, .int .i64 c.way]] w (DoesP w0 wB G H now out A cap c) := by
  have HB := hide hB
  have HR := hide hR
  have HS := hide hs
  have HL := hide hl
  have hG := hB.lt
  have f0 := hB.frozen 0
  have f2 := hB.frozen 2
  have f3 := hB.frozen 3
  have f4 := hB.frozen 4
  have f5 := hB.frozen 5
  have f6 := hB.frozen 6
  have f7 := hB.frozen 7
  have g2 : w.cell? ⟨G, 2, none⟩ = some (.bool now.on) := hB.cell 2
  have g3 : w.cell? ⟨G, 3, none⟩ = some (.int .i64 now.rk) := hB.cell 3
  have g4 : w.cell? ⟨G, 4, none⟩ = some (.int .i64 now.rv) := hB.cell 4
  have g5 : w.cell? ⟨G, 5, none⟩ = some (.int .i64 now.ra) := hB.cell 5
  have g6 : w.cell? ⟨G, 6, none⟩ = some (.int .i64 now.rz) := hB.cell 6
  have g7 : w.cell? ⟨G, 7, none⟩ = some (.slice now.A now.l.length now.cap) := hB.cell 7
  clear hB hR hs hl
  have hb1 : Below w.heap.size w (w.alloc (.cells (chC c) 77)) := (Below.refl _ _).alloc (Nat.le_refl _) _
  have HB1 := hide (HB.out.below hb1 hG)
  have HR1 := hide (HR.out.below hb1)
  clear hb1
  rcases (show c.k = 1 ∨ c.k = 2 ∨ c.k = 3 ∨ c.k = 4 ∨ (c.k ≠ 1 ∧ c.k ≠ 2 ∧ c.k ≠ 3 ∧ c.k ≠ 4) by omega) with hk | hk | hk | hk | ⟨k1, k2, k3, k4⟩
  · have HK := hide hk
    have HD := hide (show doesV now.v c = { now.v with rk := c.rk, rv := c.rv, ra := c.ra, rz := c.rz } by rw [doesV, if_pos hk])
    have hq : (c.k == 1) = true := by simpa using hk
    clear hk
    go_enter Tryz.func75, Tryz.ntmps75
    go_wp2_with fail
    go_end0
    exact ⟨rfl, ⟨now.f, now.t, now.on, c.rk, c.rv, c.ra, c.rz, now.A, now.l, now.cap, now.y⟩, HD.out.symm, ((((HB.out.set_ 3 _).set_ 4 _).set_ 5 _).set_ 6 _).alloc _, (((((HR.out.setG 3 _).setG 4 _).setG 5 _).setG 6 _).alloc _).keys (sub_now rfl rfl rfl)⟩
  · have HD := hide (show doesV now.v c = { now.v with l := c.l } by rw [doesV, if_neg (by omega), if_pos hk])
    have hlen := HL.out hk
    have hq1 : (c.k == 1) = false := by simp; omega
    have hq : (c.k == 2) = true := by simpa using hk
    have hle := HS.out.le
    clear hk
    go_enter Tryz.func75, Tryz.ntmps75
    go_wp2_with (at_builtin
                 refine wpList_app rfl (.tmp 21) (.tmp 23) 59 rfl elCov (B := w.heap.size + 1) (rows := []) (news := c.l.map encCv) rfl ?_ rfl (by simp) ?_ (okCov c.l) ?_ ?_ ?_ ?_
                 · have := OwnS.lit (w.alloc (.cells (chC c) 77)) (B := w.heap.size + 1) (by simp) 41 (sz := 5) [] RowsOk.nil_ (by simp [maxLen]) #[] rfl
                   rwa [show (w.alloc (.cells (chC c) 77)).heap.size = w.heap.size + 1 by simp] at this
                 · exact (HS.out.sl.below (((Below.refl _ _).alloc (Nat.le_refl _) _).alloc (by simp) _)).more (by simp; omega)
                 · simp only [maxLen]; omega
                 · omega
                 · simp
                 intro A1 c1 wa ho1 hg1 ha1
                 have hba : Below (w.alloc (.cells (chC c) 77)).heap.size (w.alloc (.cells (chC c) 77)) wa := ((Below.refl _ _).alloc (Nat.le_refl _) _).grown hg1 (by simp) (fun k hk => by simp [blk] at hk; simp; omega)
                 simp only [Nat.zero_add, List.nil_append] at ho1
                 have HO1 := hide ho1
                 have HBA := hide hba
                 have hza := hba.size
                 simp at hza
                 have fa : wa.frozen? ⟨G, 7, none⟩ = false := by rw [hba.frozen (p := ⟨G, 7, none⟩) (by simp; omega)]; exact HB1.out.frozen 7
                 have ga : wa.cell? ⟨G, 7, none⟩ = some (.slice now.A now.l.length now.cap) := by rw [hba.cell (p := ⟨G, 7, none⟩) (by simp; omega)]; exact HB1.out.cell 7
                 clear hg1 ha1 hba ho1)
    go_end0
    have hr1 := HR1.out.below HBA.out
    refine ⟨rfl, ⟨now.f, now.t, now.on, now.rk, now.rv, now.ra, now.rz, A1, c.l, c1, now.y⟩, HD.out.symm, ?_, ?_⟩
    · exact (HB1.out.below HBA.out (by simp; omega)).set_ 7 _
    · refine CR.setG ?_ 7 _
      refine CR.keys (ks := (⟨now.f, now.t, now.on, now.rk, now.rv, now.ra, now.rz, A1, c.l, c1, now.y⟩ : Sc) :: now :: out) ?_ ?_
      · exact hr1.key (W := w.alloc (.cells (chC c) 77)) (by have := HR.out.lt; simp; omega) (fun k hk => by have := (HR.out.own.lt k hk).2; simp; omega) (by simpa using HO1.out)
      · intro x hx
        rcases List.mem_cons.1 hx with rfl | hx
        · exact ⟨_, by simp, rfl, rfl, rfl⟩
        · exact ⟨x, by simp [hx], rfl, rfl, rfl⟩
  · have HD := hide (show doesV now.v c = { now.v with on := false } by rw [doesV, if_neg (by omega), if_neg (by omega), if_pos hk])
    have hq1 : (c.k == 1) = false := by simp; omega
    have hq2 : (c.k == 2) = false := by simp; omega
    have hq : (c.k == 3) = true := by simpa using hk
    clear hk
    go_enter Tryz.func75, Tryz.ntmps75
    go_wp2_with fail
    go_end0
    exact ⟨rfl, ⟨now.f, now.t, false, now.rk, now.rv, now.ra, now.rz, now.A, now.l, now.cap, now.y⟩, HD.out.symm, (HB.out.set_ 2 _).alloc _, ((HR.out.setG 2 _).alloc _).keys (sub_now rfl rfl rfl)⟩
  · have HD := hide (show doesV now.v c = { now.v with on := true } by rw [doesV, if_neg (by omega), if_neg (by omega), if_neg (by omega), if_pos hk])
    have hq1 : (c.k == 1) = false := by simp; omega
    have hq2 : (c.k == 2) = false := by simp; omega
    have hq3 : (c.k == 3) = false := by simp; omega
    have hq : (c.k == 4) = true := by simpa using hk
    clear hk
    go_enter Tryz.func75, Tryz.ntmps75
    go_wp2_with fail
    go_end0
    exact ⟨rfl, ⟨now.f, now.t, true, now.rk, now.rv, now.ra, now.rz, now.A, now.l, now.cap, now.y⟩, HD.out.symm, (HB.out.set_ 2 _).alloc _, ((HR.out.setG 2 _).alloc _).keys (sub_now rfl rfl rfl)⟩
  · have HD := hide (show doesV now.v c = now.v by rw [doesV, if_neg k1, if_neg k2, if_neg k3, if_neg k4])
    have hq1 : (c.k == 1) = false := by simpa using k1
    have hq2 : (c.k == 2) = false := by simpa using k2
    have hq3 : (c.k == 3) = false := by simpa using k3
    have hq4 : (c.k == 4) = false := by simpa using k4
    clear k1 k2 k3 k4
    go_enter Tryz.func75, Tryz.ntmps75
    go_wp2_with fail
    go_end0
    exact ⟨rfl, now, HD.out.symm, HB.out.alloc _, HR.out.alloc _⟩
end Go.Proofs.YtmfohnchnbgbaaaGreatDoor
