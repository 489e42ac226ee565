/- Part 22 of the proof. -/
import Derived.Stop.RegionWithIn
import Derived.Test.YtmfohnchnbgbaaaGreatDoorYpM19
import Derived.Test.YtmfohnchnbgbaaaGreatDoorYpM21
/- The pieces of a step: the iterator. -/
namespace Go.Proofs.YtmfohnchnbgbaaaGreatDoor
open Go.RowKit Go.Shelf
attribute [local go_sem] Oper.semAt_some

/-- A piece: its span, its value. -/
def okPc (p : Int × Int × Int) : Prop := 1 ≤ p.1 ∧ p.1 < p.2.1 ∧ p.2.1 ≤ 292195 ∧ -4000000000000000000 ≤ p.2.2 ∧ p.2.2 ≤ 4000000000000000000
abbrev Pc := { p : Int × Int × Int // okPc p }
def encPc (p : Pc) : Array Value := #[.agg #[.int .i64 p.1.1, .int .i64 p.1.2.1], .int .i64 p.1.2.2]
/-- The pieces from a day on, of the places that are left. -/
def pcL (a v : List Int) (t : Int) : Int → List Int → List (Int × Int × Int)
  | f, [] => [(f, t, valI f 0 a v)]
  | f, d :: r => if d ≤ f ∨ t ≤ d then pcL a v t f r else (f, d, valI f 0 a v) :: pcL a v t d r
theorem valI_bd : ∀ {a v : List Int} {t acc day val : Int}, rsG day val a v = true → -4000000000000000000 ≤ acc ∧ acc ≤ 4000000000000000000 → -4000000000000000000 ≤ valI t acc a v ∧ valI t acc a v ≤ 4000000000000000000
  | [], v, _, _, _, _, _, h => by cases v <;> exact h
  | d :: ds, [], _, _, _, _, _, h => h
  | d :: ds, x :: xs, t, acc, day, val, hr, h => by
    rw [rsG, Bool.and_eq_true, okP, Bool.and_eq_true] at hr
    rw [valI]
    split
    · exact valI_bd hr.2 (by have := hr.1.2; simpa [moneyS] using this)
    · exact h
theorem pcL_ok {a v : List Int} (hr : stepRB a v = true) {t : Int} (ht : t ≤ 292195) : ∀ {r : List Int} {f : Int}, 1 ≤ f → f < t → ∀ p ∈ pcL a v t f r, okPc p
  | [], f, h1, h2, p, hp => by
    simp [pcL] at hp; subst hp
    exact ⟨h1, h2, ht, (valI_bd hr (by omega)).1, (valI_bd hr (by omega)).2⟩
  | d :: r, f, h1, h2, p, hp => by
    rw [pcL] at hp
    split at hp
    · exact pcL_ok hr ht h1 h2 p hp
    · rcases List.mem_cons.1 hp with rfl | hp
      · exact ⟨h1, by simp; omega, by simp; omega, (valI_bd hr (by omega)).1, (valI_bd hr (by omega)).2⟩
      · exact pcL_ok hr ht (by omega) (by omega) p hp
theorem pcs_of : ∀ {l : List (Int × Int × Int)}, (∀ p ∈ l, okPc p) → ∃ zs : List Pc, zs.map Subtype.val = l
  | [], _ => ⟨[], rfl⟩
  | p :: r, h => by
    obtain ⟨zs, hz⟩ := pcs_of (l := r) (fun q hq => h q (by simp [hq]))
    exact ⟨⟨p, h p (by simp)⟩ :: zs, by rw [List.map_cons, hz]⟩
/-- What a round keeps: all below B0, and the two boxes. -/
structure KpS (B0 Bs Bf : Nat) (W W' : World) : Prop where
  b : Below B0 W W'
  s : W'.heap[Bs]? = W.heap[Bs]?
  f : W'.heap[Bf]? = W.heap[Bf]?
theorem KpS.refl (B0 Bs Bf : Nat) (W : World) : KpS B0 Bs Bf W W := ⟨Below.refl _ _, rfl, rfl⟩
theorem KpS.trans {B0 Bs Bf : Nat} {A B C : World} (h : KpS B0 Bs Bf A B) (k : KpS B0 Bs Bf B C) : KpS B0 Bs Bf A C := ⟨h.b.trans k.b, k.s.trans h.s, k.f.trans h.f⟩
theorem KpS.below {B0 Bs Bf : Nat} {W W' : World} (h : Below W.heap.size W W') (h0 : B0 ≤ W.heap.size) (h1 : Bs < W.heap.size) (h2 : Bf < W.heap.size) : KpS B0 Bs Bf W W' := ⟨h.mono h0, h.block _ h1, h.block _ h2⟩
theorem KpS.put {B0 Bs Bf : Nat} {w : World} (h0 : B0 ≤ w.heap.size) (h1 : Bs < w.heap.size) (h2 : Bf < w.heap.size) (W : World) (l : Nat) (o o' : Obj) (hl : w.heap.size ≤ l) (h : W.heap[l]? = some o) (hc : o.isCells = false) (hw : o.isWalk = false) : KpS B0 Bs Bf W (W.putObj l o') := by
  have hlt := (Array.getElem?_eq_some_iff.1 h).1
  have hg := grownBy_putObj' W l o'
  exact ⟨belowK_b h0 W l o o' hl h hc hw, hg.block Bs (by omega) (fun e => by cases e; omega), hg.block Bf (by omega) (fun e => by cases e; omega)⟩
theorem heap_cell {W W' : World} {b o : Nat} (h : W'.heap[b]? = W.heap[b]?) : W'.cell? ⟨b, o, none⟩ = W.cell? ⟨b, o, none⟩ := by
  simp only [World.cell?, h]
theorem abides_below {β : Type} {B : Nat} {J : β → World → Prop} (hJ : AbidesFrom B J) {s : β} {W W' : World} (h : J s W) (hb : Below W.heap.size W W') : J s W' := hJ s W W' none h (grown_of_below hb none) (fun r e => by cases e)

theorem yield_b {e : Ending} {p q : Prop} (h : (e = .returned (.bool true) ∧ p) ∨ (e = .returned (.bool false) ∧ q)) : ∃ b, e = .returned (.bool b) ∧ ((b = true ∧ p) ∨ (b = false ∧ q)) := by
  rcases h with ⟨h1, h2⟩ | ⟨h1, h2⟩
  · exact ⟨true, h1, .inl ⟨rfl, h2⟩⟩
  · exact ⟨false, h1, .inr ⟨rfl, h2⟩⟩
set_option maxRecDepth 100000 in
set_option maxHeartbeats 8000000 in
theorem pieces1_in (n : Nat) (hn : 1 ≤ n) (w0 W : World) (l Bs Bf n0 m cap cap2 : Nat) (A A2 : Option Addr) (a v : List Int) (f t : Int) (zs : List Pc) (hz : zs.map Subtype.val = pcL a v t f a) (J Jx : List Pc → World → Prop)
    (hs : SV w0 1 A m cap (a.map encI)) (hs2 : SV w0 1 A2 m cap2 (v.map encI)) (hr : stepRB a v = true) (hm6 : m ≤ 1000000) (hn0 : w0.heap.size ≤ n0) (hnW : n0 ≤ W.heap.size) (hBs0 : Bs < W.heap.size) (hBf0 : Bf < W.heap.size)
    (hJ : ∀ s W W', J s W → Below W.heap.size W W' → J s W')
    (hY : ∀ pre x W, J pre W → pre.length < m + 1 → YieldAt Fence.wide (n - 1) Tryz.prog l (encPc x) W fun e W' =>
      (e = .returned (.bool true) ∧ J (pre ++ [x]) W' ∧ KpS n0 Bs Bf W W') ∨ (e = .returned (.bool false) ∧ Jx (pre ++ [x]) W'))
    (hBs : W.cell? ⟨Bs, 0, none⟩ = some (.int .i64 f) ∧ W.cell? ⟨Bs, 1, none⟩ = some (.int .i64 t)) (hBf : W.cell? ⟨Bf, 0, none⟩ = some (.slice A m cap) ∧ W.cell? ⟨Bf, 1, none⟩ = some (.slice A2 m cap2)) (hW : Below w0.heap.size w0 W) (h0 : J [] W) :
    CallsIn Fence.wide n Tryz.prog 157 #[.func (.yield l) #[] #[], .pointer (some ⟨Bs, 0, none⟩), .pointer (some ⟨Bf, 0, none⟩)] W fun e W' => (∃ v, e = .returned v) ∧
      ((∃ ys, ys = zs ∧ J ys W') ∨ (∃ pre, (∃ k, k ≤ zs.length ∧ pre = zs.take k) ∧ Jx pre W')) := by
  have hmx := hs.le
  have hmy := hs.most
  unfold maxLen at hmy
  have hma : a.length = m := by have := hs.len; simpa using this
  have HMA := hide hma
  have HS := hide hs
  have HS2 := hide hs2
  have HR := hide hr
  have HZ := hide hz
  have HW := hide hW
  have HJ := hide hJ
  clear hs hs2 hr hz hW hJ hma
  obtain ⟨hBs1, hBs2⟩ := hBs
  obtain ⟨hBf1, hBf2⟩ := hBf
  refine callsIn_of_wp Tryz.func157 rfl trivial ?_ rfl
  simp only [Tryz.ntmps157, List.size_toArray, List.length_cons, List.length_nil, Nat.reduceAdd, Nat.reduceSub, Array.replicate_succ, Array.replicate_zero, List.push_toArray, List.append_toArray, List.nil_append, List.cons_append]
  gi_wp2
  gi_loopw [4, 12] (fun q i wr => ∃ (k g : Nat) (fr : Int), k ≤ m ∧ i = .int .i64 k ∧ q = .int .i64 fr ∧ (zs.drop g).map Subtype.val = pcL a v t fr (a.drop k) ∧ g ≤ k ∧ J (zs.take g) wr ∧ KpS n0 Bs Bf W wr) (fun _ i _ => m - (intOf i).toNat)
  case atStart => exact ⟨0, 0, f, Nat.zero_le _, rfl, rfl, HZ.out, Nat.le_refl _, h0, KpS.refl _ _ _ _⟩
  case round =>
    obtain ⟨k, g, fr, hk, rfl, rfl, hpc, hgk, hJs, hnx⟩ := hrel
    have b1 : (wr : World).cell? ⟨Bs, 1, none⟩ = some (.int .i64 t) := (heap_cell hnx.s).trans hBs2
    have b2 : (wr : World).cell? ⟨Bf, 0, none⟩ = some (.slice A m cap) := (heap_cell hnx.f).trans hBf1
    have b3 : (wr : World).cell? ⟨Bf, 1, none⟩ = some (.slice A2 m cap2) := (heap_cell hnx.f).trans hBf2
    have HPC := hide hpc
    have HJS := hide hJs
    have HNX := hide hnx
    clear hpc hJs
    have HSr := hide (HS.out.below (HW.out.trans (hnx.b.mono hn0)))
    have HSr2 := hide (HS2.out.below (HW.out.trans (hnx.b.mono hn0)))
    by_cases hlt : k < m
    · obtain ⟨d, hd⟩ := get_of (l := a) (k := k) (by rw [HMA.out]; exact hlt)
      obtain ⟨b, off, rfl, hbl, c0⟩ := HSr.out.sl.i hd
      have hk0 : (0 : Int) ≤ (k : Int) := by omega
      have hk1 : (k : Int) < (m : Int) := by omega
      have HD := hide (drop_of hd)
      clear hd
      by_cases hsk : d ≤ fr ∨ t ≤ d
      · have HP2 := hide (show (zs.drop g).map Subtype.val = pcL a v t fr (a.drop (k + 1)) by rw [HPC.out, HD.out, pcL, if_pos hsk])
        rcases (show d ≤ fr ∨ (¬ d ≤ fr ∧ t ≤ d) by omega) with h1 | ⟨h1, h2⟩
        all_goals
          clear hsk
          gi_wp2
          go_roundw
          case rel => exact ⟨k + 1, g, fr, by omega, by go_num, rfl, HP2.out, by omega, HJS.out, HNX.out⟩
          case measure => simp [intOf]; omega
      · have h1 : ¬ d ≤ fr := by omega
        have h2 : ¬ t ≤ d := by omega
        have hp := HPC.out
        rw [HD.out, pcL, if_neg hsk] at hp
        obtain ⟨z, hz⟩ : ∃ z, zs[g]? = some z := by
          cases hq : zs[g]? with
          | some z => exact ⟨z, rfl⟩
          | none =>
            rw [List.drop_eq_nil_of_le (List.getElem?_eq_none_iff.1 hq)] at hp
            cases hp
        rw [drop_of hz, List.map_cons] at hp
        obtain ⟨hz1, hz2⟩ := List.cons.inj hp
        have HZ1 := hide hz1
        have HZ2 := hide hz2
        have HZT := hide (take_of hz)
        have hzl := lt_of_get hz
        clear hsk hp hz1 hz2 hz
        gi_wp2
        refine ⟨trivial, ?_⟩
        refine (callsIn_wide.2 (value_any _ _ m cap cap2 a v fr wr HSr.out HSr2.out HR.out hm6)).mono ?_
        rintro e W3 ⟨rfl, hb3⟩
        have hJ3 := HJ.out _ _ _ HJS.out hb3
        have HB3 := hide hb3
        obtain ⟨fn, tmps, assign, body, hy, hR⟩ := hY _ z W3 hJ3 (by rw [List.length_take]; omega)
        dsimp only [encPc] at hy
        rw [HZ1.out] at hy
        dsimp only at hy
        clear hb3 hJ3
        gi_wp2
        refine hR.mono ?_
        rintro e W4 (⟨rfl, hJ4, hk4⟩ | ⟨rfl, hJx4⟩)
        · rw [← HZT.out] at hJ4
          have HJ4 := hide hJ4
          clear hJ4 c0 hy hR
          gi_wp2
          go_roundw
          case rel => exact ⟨k + 1, g + 1, d, by omega, by go_num, rfl, HZ2.out, by omega, HJ4.out, (HNX.out.trans (KpS.below HB3.out (by have := HNX.out.b.size; omega) (by have := HNX.out.b.size; omega) (by have := HNX.out.b.size; omega))).trans hk4⟩
          case measure => simp [intOf]; omega
        · rw [← HZT.out] at hJx4
          have HJ4 := hide hJx4
          clear hJx4 c0 hy hR
          gi_wp2
          refine bodyPost_ret (results_none rfl _ _ _) rfl ?_
          exact ⟨⟨_, rfl⟩, .inr ⟨_, ⟨g + 1, by omega, rfl⟩, HJ4.out⟩⟩
    · obtain rfl : k = m := by omega
      have hp := HPC.out
      rw [List.drop_eq_nil_of_le (show a.length ≤ k by rw [HMA.out]; exact Nat.le_refl _), pcL] at hp
      obtain ⟨z, hz⟩ : ∃ z, zs[g]? = some z := by
        cases hq : zs[g]? with
        | some z => exact ⟨z, rfl⟩
        | none =>
          rw [List.drop_eq_nil_of_le (List.getElem?_eq_none_iff.1 hq)] at hp
          cases hp
      rw [drop_of hz, List.map_cons] at hp
      obtain ⟨hz1, hz2⟩ := List.cons.inj hp
      have hzg : zs.take (g + 1) = zs := List.take_of_length_le (by
        have : (zs.drop (g + 1)).length = 0 := by rw [← List.length_map (f := Subtype.val), hz2]; rfl
        rw [List.length_drop] at this
        omega)
      have HZ1 := hide hz1
      have HZT := hide (take_of hz)
      have HZG := hide hzg
      clear hp hz1 hz2 hz hzg
      gi_wp2
      gi_region_with (first
        | (refine ⟨trivial, ?_⟩
           gi_at_call 158
           refine (callsIn_wide.2 (value_any _ _ k cap cap2 a v fr _ (HSr.out.below (Below.refl _ _).drew) (HSr2.out.below (Below.refl _ _).drew) HR.out hm6)).mono ?_
           rintro e W3 ⟨rfl, hb3⟩
           have hb4 := bel_undrew hb3
           have d1 := kept hb4 b1
           have hJ3 := HJ.out _ _ _ HJS.out hb4
           have hYY := hY _ z W3 hJ3 (by rw [List.length_take]; omega)
           obtain ⟨fn, tmps, assign, body, hy, hR⟩ := hYY
           dsimp only [encPc] at hy
           rw [HZ1.out] at hy
           dsimp only at hy
           clear hb3 hb4 hJ3)
        | (refine hR.mono ?_
           intro e W4 hor
           obtain ⟨bb, rfl, hor2⟩ := yield_b hor
           have HOR := hide hor2
           clear hor hor2))
      all_goals
        gi_wp2
        go_end0
        have hor := HOR.out
        rw [← HZT.out, HZG.out] at hor
        refine ⟨⟨_, rfl⟩, ?_⟩
        rcases hor with ⟨_, h1, _⟩ | ⟨_, h1⟩
        · exact .inl ⟨zs, rfl, h1⟩
        · exact .inr ⟨zs, ⟨zs.length, Nat.le_refl _, List.take_length.symm⟩, h1⟩
theorem pieces_in (n : Nat) (f t : Int) (A A2 : Option Addr) (m m2 cap cap2 : Nat) (w : World) :
    CallsIn Fence.wide n Tryz.prog 132 #[.agg #[.slice A m cap, .slice A2 m2 cap2], .agg #[.int .i64 f, .int .i64 t]] w fun e w' => e = .returned (.func (.func 157) #[] #[.pointer (some ⟨w.heap.size + 1, 0, none⟩), .pointer (some ⟨w.heap.size, 0, none⟩)]) ∧ w' = (w.alloc (.cells #[.slice A m cap, .slice A2 m2 cap2] 127)).alloc (.cells #[.int .i64 f, .int .i64 t] 56) := by
  have hmf : ∀ (fn : Fn) (first cap : Array Value) (w : World), (Instr.makeFunc fn first cap).run Tryz.prog w = .ok (.func fn first cap) w := fun _ _ _ _ => rfl
  refine callsIn_of_wp Tryz.func132 rfl trivial ?_ rfl
  simp only [Tryz.ntmps132, List.size_toArray, List.length_cons, List.length_nil, Nat.reduceAdd, Nat.reduceSub, Array.replicate_succ, Array.replicate_zero, List.push_toArray, List.append_toArray, List.nil_append, List.cons_append]
  gi_wp2
  go_ret
  exact ⟨rfl, rfl⟩
theorem pieces_stops (n : Nat) (hn : 1 ≤ n) (w0 : World) (Bs Bf n0 m cap cap2 : Nat) (A A2 : Option Addr) (a v : List Int) (f t : Int) (zs : List Pc) (hz : zs.map Subtype.val = pcL a v t f a)
    (hs : SV w0 1 A m cap (a.map encI)) (hs2 : SV w0 1 A2 m cap2 (v.map encI)) (hr : stepRB a v = true) (hm6 : m ≤ 1000000) (hn0 : w0.heap.size ≤ n0)
    (w : World) (hBs0 : Bs < w.heap.size) (hBf0 : Bf < w.heap.size) (hnw : n0 ≤ w.heap.size) (hBs : w.cell? ⟨Bs, 0, none⟩ = some (.int .i64 f) ∧ w.cell? ⟨Bs, 1, none⟩ = some (.int .i64 t)) (hBf : w.cell? ⟨Bf, 0, none⟩ = some (.slice A m cap) ∧ w.cell? ⟨Bf, 1, none⟩ = some (.slice A2 m cap2)) (hw : Below w0.heap.size w0 w) :
    SeqStopsK Fence.wide n Tryz.prog 157 #[.pointer (some ⟨Bs, 0, none⟩), .pointer (some ⟨Bf, 0, none⟩)] encPc (KpS n0 Bs Bf) (fun ys => ys = zs) (fun pre => ∃ k, k ≤ zs.length ∧ pre = zs.take k) (m + 1) w := fun l J Jx W hW hJ _ hY h0 =>
  pieces1_in n hn w0 W l Bs Bf n0 m cap cap2 A A2 a v f t zs hz J Jx hs hs2 hr hm6 hn0 (by have := hW.size; omega) (by have := hW.size; omega) (by have := hW.size; omega) (fun s W1 W2 h1 h2 => abides_below hJ h1 h2) hY
    ⟨(hW.cell (p := ⟨Bs, 0, none⟩) (by simp only; omega)).trans hBs.1, (hW.cell (p := ⟨Bs, 1, none⟩) (by simp only; omega)).trans hBs.2⟩ ⟨(hW.cell (p := ⟨Bf, 0, none⟩) (by simp only; omega)).trans hBf.1, (hW.cell (p := ⟨Bf, 1, none⟩) (by simp only; omega)).trans hBf.2⟩ (chain hw hW) h0
end Go.Proofs.YtmfohnchnbgbaaaGreatDoor
