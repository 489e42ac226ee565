/- How a file stands: the program's face, and the document's, sum by sum. -/
import Derived.Test.YtmeneojgdbjlnaaClaimB
import Derived.Deep.DeepCutAuto
import Derived.Deep.DeepMust
namespace Go.Proofs.Ytmeneojgdbjlnaa
open Go.RowKit

def sumK (k : Int) (l : List Ac) : Int := l.foldl (fun n a => if a.k = k then wrap64 (n + a.m) else n) 0
theorem sumK_snoc (k : Int) (l : List Ac) (a : Ac) : sumK k (l ++ [a]) = if a.k = k then wrap64 (sumK k l + a.m) else sumK k l := by simp [sumK]
theorem sumK_take {k : Int} {l : List Ac} {i : Nat} {a : Ac} (h : l[i]? = some a) : sumK k (l.take (i + 1)) = if a.k = k then wrap64 (sumK k (l.take i) + a.m) else sumK k (l.take i) := by rw [take_of h, sumK_snoc]
def StepInv (l : List Ac) : Prop := (standP l).s = sumK 2 l ∧ (standP l).b = sumK 3 l
theorem stand_sums : ∀ (n : Nat) (l : List Ac), l.length = n → (standP l).s = sumK 2 l ∧ (standP l).b = sumK 3 l := by
  intro n
  induction n with
  | zero => intro l h; have : l = [] := List.eq_nil_of_length_eq_zero h; subst this; exact ⟨rfl, rfl⟩
  | succ n ih =>
    intro l h
    obtain ⟨r, a, rfl⟩ : ∃ r a, l = r ++ [a] := ⟨l.dropLast, l.getLast (by intro e; subst e; simp at h), (List.dropLast_concat_getLast _).symm⟩
    have hr := ih r (by simpa using h)
    rw [standP_snoc, sumK_snoc, sumK_snoc]
    unfold stepP
    rw [hr.1, hr.2]
    by_cases h1 : a.k = 1
    · simp [h1]
    by_cases h2 : a.k = 2
    · simp [h2]
    by_cases h3 : a.k = 3
    · simp [h3]
    by_cases h4 : a.k = 4
    · simp [h4]
    by_cases h5 : a.k = 5
    · simp [h5]
    · simp [h1, h2, h3, h4, h5, hr]

def posC (p : St) : Array Value := #[.int .i64 (max p.g p.s), .int .i64 p.s, .int .i64 0, .int .i64 p.b, .int .i64 0, .bool p.o]

set_option maxHeartbeats 1000000 in
theorem sum_any (c : Cl) (A : Option Addr) (cap : Nat) (l : List Ac) (kd : Int) (w : World) (hl : Sl w w.heap.size 3 A (l.map encAc)) (hm : l.length ≤ 9223372036854775807) :
    Calls Try.prog 30 #[.agg #[.int .i64 c.id, .int .i64 c.pol, .int .i64 c.per, .int .i64 c.loss, .int .i64 c.bkd, .int .i64 c.ev, .slice A l.length cap], .int .i64 kd] w
      fun e w' => e = .returned (.int .i64 (sumK kd l)) ∧ Below w.heap.size w w' := by
  have HL := hide hl
  clear hl
  go_enter Try.func30, Try.ntmps30
  go_wp2
  go_loop [5, 6] (fun t i => ∃ k : Nat, k ≤ l.length ∧ i = .int .i64 k ∧ t = .int .i64 (sumK kd (l.take k))) (fun _ i => l.length - (intOf i).toNat)
  case atStart => exact ⟨0, Nat.zero_le _, rfl, rfl⟩
  case round =>
    obtain ⟨k, hk, rfl, rfl⟩ := hrel
    by_cases hlt : k < l.length
    · obtain ⟨⟨ab, ak, am⟩, hx⟩ := get_of hlt
      obtain ⟨bb, off, rfl, hbl, hc0, hc1, hc2⟩ := HL.out.ac hx
      simp only at hc0 hc1 hc2
      have HX := hide (sumK_take (k := kd) hx)
      clear hx
      by_cases hkk : ak = kd
      · subst hkk
        go_wp2
        go_round
        case rel => exact ⟨k + 1, by omega, by go_num, by rw [HX.out, if_pos rfl]⟩
        case measure => simp [intOf]; omega
      · have hkb : (ak == kd) = false := by simpa using hkk
        go_wp2
        go_round
        case rel => exact ⟨k + 1, by omega, by go_num, by rw [HX.out, if_neg hkk]⟩
        case measure => simp [intOf]; omega
    · obtain rfl : k = l.length := by omega
      rw [List.take_length]
      go_wp2
      go_ret
      exact ⟨rfl, (Below.refl _ _).alloc (Nat.le_refl _) _⟩

set_option maxHeartbeats 1000000 in
theorem Stand_any (c : Cl) (A : Option Addr) (cap : Nat) (l : List Ac) (w : World) (hl : Sl w w.heap.size 3 A (l.map encAc)) (hm : l.length ≤ 9223372036854775807) :
    Calls Try.prog 22 #[.agg #[.int .i64 c.id, .int .i64 c.pol, .int .i64 c.per, .int .i64 c.loss, .int .i64 c.bkd, .int .i64 c.ev, .slice A l.length cap]] w
      fun e w' => e = .returned (.agg (posC (standP l))) ∧ Below w.heap.size w w' := by
  go_enter Try.func22, Try.ntmps22
  go_wp2_with fail
  refine (stand_any c A cap l _ ((hl.below (((Below.refl _ _).alloc (Nat.le_refl _) _).alloc (by simp) _)).more (by simp; omega)) hm).mono ?_
  rintro e w1 ⟨rfl, hb1⟩
  have hz := (((Blk.new' (w := w.alloc _) (t := 42) (cs := zeroC) (g := w.heap.size + 1) (by simp))).below hb1 (by simp))
  have hb := chain ((((Below.refl w.heap.size w).alloc (Nat.le_refl _) _).alloc (by simp) _)) hb1
  have hlt := hz.lt
  clear hb1
  have z0 := hz.cell 0
  have z1 := hz.cell 1
  have z2 := hz.cell 2
  have z3 := hz.cell 3
  have z4 := hz.cell 4
  have z5 := hz.cell 5
  have f0 := hz.frozen 0
  have f1 := hz.frozen 1
  have f2 := hz.frozen 2
  have f3 := hz.frozen 3
  have f4 := hz.frozen 4
  have f5 := hz.frozen 5
  simp [zeroC] at z0 z1 z2 z3 z4 z5
  rcases hst : standP l with ⟨g, s, b, o⟩
  have HST := hide hst
  clear hst
  simp only [St.cells]
  rcases Int.lt_or_le g s with hgs | hgs
  · have hmx := Int.max_eq_right (Int.le_of_lt hgs)
    have HMX := hide hmx
    clear hmx
    go_wp2_with fail
    have hzf := ((((((hz.set_ 0 (.int .i64 s)).set_ 1 (.int .i64 s)).set_ 2 (.int .i64 0)).set_ 3 (.int .i64 b)).set_ 4 (.int .i64 0)).set_ 5 (.bool o)).alloc (.cells #[.int .i64 s, .int .i64 s, .int .i64 0, .int .i64 b, .int .i64 0, .bool o] 53)
    have e : (((((zeroC.setIfInBounds 0 (.int .i64 s)).setIfInBounds 1 (.int .i64 s)).setIfInBounds 2 (.int .i64 0)).setIfInBounds 3 (.int .i64 b)).setIfInBounds 4 (.int .i64 0)).setIfInBounds 5 (.bool o) = posC ⟨g, s, b, o⟩ := by simp [zeroC, posC, HMX.out]
    rw [e] at hzf
    refine ret_row (p := 2) (ty := 42) (g := w.heap.size + 1) (t := 42) (cs := posC ⟨g, s, b, o⟩) rfl rfl rfl hzf Try.underlying42 rfl (by kernel_rfl) ⟨by rw [HST.out], ?_⟩
    exact ((((((hb.setCell (by simp) _).setCell (by simp) _).setCell (by simp) _).setCell (by simp) _).setCell (by simp) _).setCell (by simp) _).alloc (by have := hb.size; simpa [World.setCell] using this) _
  · have hmx := Int.max_eq_left hgs
    have HMX := hide hmx
    clear hmx
    go_wp2_with fail
    have hzf := ((((((hz.set_ 0 (.int .i64 g)).set_ 1 (.int .i64 s)).set_ 2 (.int .i64 0)).set_ 3 (.int .i64 b)).set_ 4 (.int .i64 0)).set_ 5 (.bool o)).alloc (.cells #[.int .i64 g, .int .i64 s, .int .i64 0, .int .i64 b, .int .i64 0, .bool o] 53)
    have e : (((((zeroC.setIfInBounds 0 (.int .i64 g)).setIfInBounds 1 (.int .i64 s)).setIfInBounds 2 (.int .i64 0)).setIfInBounds 3 (.int .i64 b)).setIfInBounds 4 (.int .i64 0)).setIfInBounds 5 (.bool o) = posC ⟨g, s, b, o⟩ := by simp [zeroC, posC, HMX.out]
    rw [e] at hzf
    refine ret_row (p := 2) (ty := 42) (g := w.heap.size + 1) (t := 42) (cs := posC ⟨g, s, b, o⟩) rfl rfl rfl hzf Try.underlying42 rfl (by kernel_rfl) ⟨by rw [HST.out], ?_⟩
    exact ((((((hb.setCell (by simp) _).setCell (by simp) _).setCell (by simp) _).setCell (by simp) _).setCell (by simp) _).setCell (by simp) _).alloc (by have := hb.size; simpa [World.setCell] using this) _

def boxC (c : Cl) (A : Option Addr) (n cap : Nat) : Array Value := #[.int .i64 c.id, .int .i64 c.pol, .int .i64 c.per, .int .i64 c.loss, .int .i64 c.bkd, .int .i64 c.ev, .slice A n cap]
theorem at1 (w : World) (z : Array Value) (t : TypeId) (o : Obj) : Blk ((w.alloc (.cells z t)).alloc o).drew w.heap.size t z := (Blk.new w t z).alloc o
theorem at1' (w : World) (z : Array Value) (t : TypeId) (o p : Obj) : Blk (((w.alloc (.cells z t)).alloc o).alloc p).drew w.heap.size t z := ((Blk.new w t z).alloc o).alloc p
theorem at2 (w : World) (z : Array Value) (t : TypeId) (o : Obj) : Blk ((w.alloc o).alloc (.cells z t)).drew (w.heap.size + 1) t z := Blk.new' (w := w.alloc o) (by simp)
theorem at2' (w : World) (z : Array Value) (t : TypeId) (o p : Obj) : Blk (((w.alloc o).alloc (.cells z t)).alloc p).drew (w.heap.size + 1) t z := (Blk.new' (w := w.alloc o) (by simp)).alloc p
theorem at3 (w : World) (z : Array Value) (t : TypeId) (o p : Obj) : Blk (((w.alloc o).alloc p).alloc (.cells z t)).drew (w.heap.size + 1 + 1) t z := Blk.new' (w := (w.alloc o).alloc p) (by simp)
def refC (p : St) : Array Value := #[.int .i64 p.g, .int .i64 p.s, .int .i64 0, .int .i64 p.b, .int .i64 0, .bool p.o]
def RefRel (w : World) (c : Cl) (A : Option Addr) (cap : Nat) (l : List Ac) (t : Value) (wx : World) : Prop :=
  ∃ G, t = .pointer (some ⟨G, 0, none⟩) ∧ w.heap.size + 1 < G ∧ Blk wx G 42 (refC ⟨0, sumK 2 l, sumK 3 l, true⟩) ∧ Blk wx w.heap.size 32 (boxC c A l.length cap) ∧ Blk wx (w.heap.size + 1) 42 zeroC ∧ Below w.heap.size w wx
theorem set6 {w : World} {g : Nat} {t : TypeId} (h : Blk w g t zeroC) (u0 u1 u2 u3 u4 u5 : Value) :
    Blk ((((((w.setCell ⟨g, 0, none⟩ u0).setCell ⟨g, 1, none⟩ u1).setCell ⟨g, 2, none⟩ u2).setCell ⟨g, 3, none⟩ u3).setCell ⟨g, 4, none⟩ u4).setCell ⟨g, 5, none⟩ u5) g t #[u0, u1, u2, u3, u4, u5] := by
  have h6 := (((((h.set_ 0 u0).set_ 1 u1).set_ 2 u2).set_ 3 u3).set_ 4 u4).set_ 5 u5
  simpa [zeroC] using h6
theorem refA {w w2 : World} {c : Cl} {A : Option Addr} {cap : Nat} {l : List Ac} (b2 : Below w.heap.size w w2) (kb2 : Blk w2 w.heap.size 32 (boxC c A l.length cap)) (zb2 : Blk w2 (w.heap.size + 1) 42 zeroC) :
    RefRel w c A cap l (.pointer (some ⟨w2.heap.size, 0, none⟩)) (w2.alloc (.cells #[.int .i64 0, .int .i64 (sumK 2 l), .int .i64 0, .int .i64 (sumK 3 l), .int .i64 0, .bool true] 42)) :=
  ⟨_, rfl, zb2.lt, Blk.new _ _ _, kb2.alloc _, zb2.alloc _, b2.alloc b2.size _⟩
theorem refB {w w2 : World} {c : Cl} {A : Option Addr} {cap : Nat} {l : List Ac} {g : Nat} (hp : Blk w2 g 42 zeroC) (hg : w.heap.size + 1 < g) (b2 : Below w.heap.size w w2) (kb2 : Blk w2 w.heap.size 32 (boxC c A l.length cap)) (zb2 : Blk w2 (w.heap.size + 1) 42 zeroC) :
    RefRel w c A cap l (.pointer (some ⟨g, 0, none⟩)) ((((((w2.setCell ⟨g, 0, none⟩ (.int .i64 0)).setCell ⟨g, 1, none⟩ (.int .i64 (sumK 2 l))).setCell ⟨g, 2, none⟩ (.int .i64 0)).setCell ⟨g, 3, none⟩ (.int .i64 (sumK 3 l))).setCell ⟨g, 4, none⟩ (.int .i64 0)).setCell ⟨g, 5, none⟩ (.bool true)) := by
  have h := (((((hp.set_ 0 (.int .i64 0)).set_ 1 (.int .i64 (sumK 2 l))).set_ 2 (.int .i64 0)).set_ 3 (.int .i64 (sumK 3 l))).set_ 4 (.int .i64 0)).set_ 5 (.bool true)
  rw [zero_to ⟨0, sumK 2 l, sumK 3 l, true⟩] at h
  exact ⟨g, rfl, hg, h, (((((kb2.far (by simp; omega) _).far (by simp; omega) _).far (by simp; omega) _).far (by simp; omega) _).far (by simp; omega) _).far (by simp; omega) _,
    (((((zb2.far (by simp; omega) _).far (by simp; omega) _).far (by simp; omega) _).far (by simp; omega) _).far (by simp; omega) _).far (by simp; omega) _,
    (((((b2.setCell (by simp; omega) _).setCell (by simp; omega) _).setCell (by simp; omega) _).setCell (by simp; omega) _).setCell (by simp; omega) _).setCell (by simp; omega) _⟩
theorem slAt {w W : World} {A : Option Addr} {xs : List (List Value)} {sz : Nat} (h : Sl w w.heap.size sz A xs) (hb : Below w.heap.size w W) : Sl W W.heap.size sz A xs := (h.below hb).more hb.size

set_option maxHeartbeats 10000000 in
theorem StandR_any (c : Cl) (A : Option Addr) (cap : Nat) (l : List Ac) (w : World) (hl : Sl w w.heap.size 3 A (l.map encAc)) (hm : l.length ≤ 9223372036854775807) :
    Calls Try.prog 23 #[.agg #[.int .i64 c.id, .int .i64 c.pol, .int .i64 c.per, .int .i64 c.loss, .int .i64 c.bkd, .int .i64 c.ev, .slice A l.length cap]] w
      fun e w' => e = .returned (.agg (posC (standP l))) ∧ Below w.heap.size w w' := by
  have HL := hide hl
  clear hl
  go_enter Try.func23, Try.ntmps23
  go_wp2_with fail
  go_cut [3] (fun t wx => RefRel w c A cap l t wx)
  case first =>
    go_region_with (first
      | (go_at_call 30
         have tok := b1
         clear tok
         refine (sum_any c A cap l _ _ ?_ hm).mono ?_
         · refine slAt HL.out ?_
           repeat (first | with_reducible exact b1 | with_reducible refine Below.drew ?_ | refine Below.alloc ?_ (by first | omega | (simp; done) | (simp; omega)) _)
         rintro e w2 ⟨rfl, hb2⟩
         have b2 : Below w.heap.size w w2 := by
           refine Below.trans ?_ (hb2.mono (by first | omega | (simp; done) | (simp; omega)))
           repeat (first | with_reducible exact b1 | with_reducible refine Below.drew ?_ | refine Below.alloc ?_ (by first | omega | (simp; done) | (simp; omega)) _)
         have kb2 : Blk w2 w.heap.size 32 (boxC c A l.length cap) := by
           refine Blk.below ?_ hb2 (by first | omega | (simp; done) | (simp; omega))
           repeat (first | exact kb1 | with_reducible refine Blk.drew ?_ | refine Blk.alloc ?_ _)
         have zb2 : Blk w2 (w.heap.size + 1) 42 zeroC := by
           refine Blk.below ?_ hb2 (by first | omega | (simp; done) | (simp; omega))
           repeat (first | exact zb1 | with_reducible refine Blk.drew ?_ | refine Blk.alloc ?_ _)
         have hlt2 := kb2.lt
         have hlt2' := zb2.lt
         try (have gp : Blk w2 (w.heap.size + 1 + 1) 42 zeroC := gp1.below hb2 (by first | omega | (simp; done) | (simp; omega))
              have gpc : ∀ i, w2.cell? ⟨w.heap.size + 1 + 1, i, none⟩ = (#[.int .i64 0, .int .i64 0, .int .i64 0, .int .i64 0, .int .i64 0, .bool false] : Array Value)[i]? := gp.cell
              have gpf := gp.frozen
              have hg := gp.lt)
         try (have gq : Blk w2 w1.heap.size 42 zeroC := (Blk.new w1 _ _).below hb2 (by first | omega | simp)
              have gqc : ∀ i, w2.cell? ⟨w1.heap.size, i, none⟩ = (#[.int .i64 0, .int .i64 0, .int .i64 0, .int .i64 0, .int .i64 0, .bool false] : Array Value)[i]? := gq.cell
              have gqf := gq.frozen
              have hg := gq.lt))
      | (go_at_call 30
         refine (sum_any c A cap l _ _ ?_ hm).mono ?_
         · refine slAt HL.out ?_
           repeat (first | with_reducible exact Below.refl _ _ | with_reducible refine Below.drew ?_ | refine Below.alloc ?_ (by first | omega | (simp; done) | (simp; omega)) _)
         rintro e w1 ⟨rfl, hb1⟩
         have b1 : Below w.heap.size w w1 := by
           refine Below.trans ?_ (hb1.mono (by first | omega | (simp; done) | (simp; omega)))
           repeat (first | with_reducible exact Below.refl _ _ | with_reducible refine Below.drew ?_ | refine Below.alloc ?_ (by first | omega | (simp; done) | (simp; omega)) _)
         have kb1 : Blk w1 w.heap.size 32 (boxC c A l.length cap) := by
           refine Blk.below ?_ hb1 (by first | omega | (simp; done) | (simp; omega))
           first | exact at1 _ _ _ _ | exact at1' _ _ _ _ _
         have zb1 : Blk w1 (w.heap.size + 1) 42 zeroC := by
           refine Blk.below ?_ hb1 (by first | omega | (simp; done) | (simp; omega))
           first | exact at2 _ _ _ _ | exact at2' _ _ _ _ _
         have hlt1 := kb1.lt
         have hlt1' := zb1.lt
         have qb : ∀ i, w1.cell? ⟨w.heap.size, i, none⟩ = (#[.int .i64 c.id, .int .i64 c.pol, .int .i64 c.per, .int .i64 c.loss, .int .i64 c.bkd, .int .i64 c.ev, .slice A l.length cap] : Array Value)[i]? := kb1.cell
         try (have gp1 : Blk w1 (w.heap.size + 1 + 1) 42 zeroC := (at3 _ _ _ _ _).below hb1 (by first | omega | simp)
              have hgp1 := gp1.lt)))
    all_goals
      go_wp2_with fail
      go_meet
      first | with_reducible exact refB gp (by omega) b2 kb2 zb2 | with_reducible exact refB gq (by omega) b2 kb2 zb2 | with_reducible exact refA b2 kb2 zb2
  case rest =>
    obtain ⟨G, rfl, hG, hp, hk0, hz, hb⟩ := hcut
    have hlG := hp.lt
    have hk0' := hk0.cell 6
    simp [boxC] at hk0'
    go_wp2_with fail
    go_loopw [4] (fun i wr => ∃ k : Nat, k ≤ l.length ∧ i = .int .i64 k ∧ Blk wr G 42 (refC ⟨(standP (l.take k)).g, sumK 2 l, sumK 3 l, (standP (l.take k)).o⟩) ∧ Blk wr w.heap.size 32 (boxC c A l.length cap) ∧ Blk wr (w.heap.size + 1) 42 zeroC ∧ Below w.heap.size w wr)
      (fun i _ => l.length - (intOf i).toNat)
    case atStart => exact ⟨0, Nat.zero_le _, rfl, hp, hk0, hz, hb⟩
    case round =>
      clear hp hk0 hz hb hk0'
      obtain ⟨k, hk, rfl, hp, hk0, hz, hb⟩ := hrel
      have hk6 := hk0.cell 6
      simp [boxC] at hk6
      have hlG := hp.lt
      by_cases hlt : k < l.length
      · obtain ⟨⟨ab, ak, am⟩, hx⟩ := get_of hlt
        obtain ⟨bb, off, rfl, hbl, hc0, hc1, hc2⟩ := ((HL.out.below hb).more hb.size).ac hx
        simp only at hc0 hc1 hc2
        have c0 := hp.cell 0
        have c5 := hp.cell 5
        have f0 := hp.frozen 0
        have f5 := hp.frozen 5
        simp [refC] at c0 c5
        have HX := hide (standP_take hx)
        clear hx
        rcases kinds ak with rfl | rfl | rfl | rfl | rfl | hkk
        · go_wp2_with fail
          go_roundw
          case rel => exact ⟨k + 1, by omega, by go_num, by rw [HX.out]; exact hp.set_ 0 _, hk0.far (by simp; omega) _, hz.far (by simp; omega) _, hb.setCell (by simp; omega) _⟩
          case measure => simp [intOf]; omega
        · go_wp2_with fail
          go_roundw
          case rel => exact ⟨k + 1, by omega, by go_num, by rw [HX.out]; exact hp, hk0, hz, hb⟩
          case measure => simp [intOf]; omega
        · go_wp2_with fail
          go_roundw
          case rel => exact ⟨k + 1, by omega, by go_num, by rw [HX.out]; exact hp, hk0, hz, hb⟩
          case measure => simp [intOf]; omega
        · go_wp2_with fail
          go_roundw
          case rel => exact ⟨k + 1, by omega, by go_num, by rw [HX.out]; exact hp.set_ 5 _, hk0.far (by simp; omega) _, hz.far (by simp; omega) _, hb.setCell (by simp; omega) _⟩
          case measure => simp [intOf]; omega
        · go_wp2_with fail
          go_roundw
          case rel => exact ⟨k + 1, by omega, by go_num, by rw [HX.out]; exact hp.set_ 5 _, hk0.far (by simp; omega) _, hz.far (by simp; omega) _, hb.setCell (by simp; omega) _⟩
          case measure => simp [intOf]; omega
        · have h1 : (ak == 1) = false := by simp; omega
          have h4 : (ak == 4) = false := by simp; omega
          have h5 : (ak == 5) = false := by simp; omega
          go_wp2_with fail
          go_roundw
          case rel => exact ⟨k + 1, by omega, by go_num, by rw [HX.out]; simp only [stepP]; rw [if_neg (by omega), if_neg (by omega), if_neg (by omega), if_neg (by omega), if_neg (by omega)]; exact hp, hk0, hz, hb⟩
          case measure => simp [intOf]; omega
      · obtain rfl : k = l.length := by omega
        rw [List.take_length] at hp
        have hss := stand_sums _ l rfl
        rw [← hss.1, ← hss.2] at hp
        clear hss
        have c0 := hp.cell 0
        have c1 := hp.cell 1
        have c2 := hp.cell 2
        have c3 := hp.cell 3
        have c4 := hp.cell 4
        have c5 := hp.cell 5
        have p0 := hp.frozen 0
        have z0 := hz.cell 0
        have z1 := hz.cell 1
        have z2 := hz.cell 2
        have z3 := hz.cell 3
        have z4 := hz.cell 4
        have z5 := hz.cell 5
        have f0 := hz.frozen 0
        have f1 := hz.frozen 1
        have f2 := hz.frozen 2
        have f3 := hz.frozen 3
        have f4 := hz.frozen 4
        have f5 := hz.frozen 5
        simp [zeroC] at z0 z1 z2 z3 z4 z5
        simp [refC] at c0 c1 c2 c3 c4 c5
        rcases Int.lt_or_le (standP l).g (standP l).s with hgs | hgs
        · go_wp2_with fail
          have hzf := set6 (hz.far (p := ⟨G, 0, none⟩) (by simp; omega) (.int .i64 (standP l).s)) (.int .i64 (max (standP l).g (standP l).s)) (.int .i64 (standP l).s) (.int .i64 0) (.int .i64 (standP l).b) (.int .i64 0) (.bool (standP l).o)
          rw [Int.max_eq_right (Int.le_of_lt hgs)] at hzf
          refine ret_row (p := 2) (ty := 42) (g := w.heap.size + 1) (t := 42) rfl rfl rfl hzf Try.underlying42 rfl (by kernel_rfl) ⟨by rw [posC, Int.max_eq_right (Int.le_of_lt hgs)], ?_⟩
          exact ((((((hb.setCell (p := ⟨G, 0, none⟩) (by simp; omega) _).setCell (by simp) _).setCell (by simp) _).setCell (by simp) _).setCell (by simp) _).setCell (by simp) _).setCell (by simp) _
        · go_wp2_with fail
          have hzf := set6 (hz) (.int .i64 (max (standP l).g (standP l).s)) (.int .i64 (standP l).s) (.int .i64 0) (.int .i64 (standP l).b) (.int .i64 0) (.bool (standP l).o)
          rw [Int.max_eq_left hgs] at hzf
          refine ret_row (p := 2) (ty := 42) (g := w.heap.size + 1) (t := 42) rfl rfl rfl hzf Try.underlying42 rfl (by kernel_rfl) ⟨by rw [posC, Int.max_eq_left hgs], ?_⟩
          exact (((((hb.setCell (by simp) _).setCell (by simp) _).setCell (by simp) _).setCell (by simp) _).setCell (by simp) _).setCell (by simp) _
end Go.Proofs.Ytmeneojgdbjlnaa
