/- Part 16 of the proof. -/
import Derived.Test.YtmfohnchnbgbaaaGreatDoorYpM15
/- Where what holds ends: a slice more, or the last one longer. -/
namespace Go.Proofs.YtmfohnchnbgbaaaGreatDoor
open Go.RowKit

def endO (d : Int) (now : Sc) (out : List Sc) : List Sc :=
  if now.f = d then out else match out.getLast? with
    | some last => if holdsB last now = true then out.dropLast ++ [{ last with t := d }] else out ++ [{ now with t := d }]
    | none => out ++ [{ now with t := d }]
def EndP (w0 wB : World) (G H : Nat) (now : Sc) (out : List Sc) (d : Int) (e : Ending) (w' : World) : Prop :=
  e = .returned (.tuple #[]) ∧ ∃ (A : Option Addr) (cap : Nat), Blk w' G 121 (scC { now with f := d }) ∧ CR w0 wB G H ({ now with f := d } :: endO d now out) (endO d now out) A cap w'
theorem Sl.sc {w : World} {B k : Nat} {A : Option Addr} {M : List Sc} {c : Sc} (h : Sl w B 9 A (M.map encSc)) (hx : M[k]? = some c) :
    ∃ b off, A = some ⟨b, off, none⟩ ∧ b < B ∧ w.cell? ⟨b, off + k * 9, none⟩ = some (.int .i64 c.f) ∧ w.cell? ⟨b, off + k * 9 + 1, none⟩ = some (.int .i64 c.t) ∧ w.cell? ⟨b, off + k * 9 + 2, none⟩ = some (.bool c.on) ∧
      w.cell? ⟨b, off + k * 9 + 3, none⟩ = some (.int .i64 c.rk) ∧ w.cell? ⟨b, off + k * 9 + 4, none⟩ = some (.int .i64 c.rv) ∧ w.cell? ⟨b, off + k * 9 + 5, none⟩ = some (.int .i64 c.ra) ∧
      w.cell? ⟨b, off + k * 9 + 6, none⟩ = some (.int .i64 c.rz) ∧ w.cell? ⟨b, off + k * 9 + 7, none⟩ = some (.slice c.A c.l.length c.cap) ∧ w.cell? ⟨b, off + k * 9 + 8, none⟩ = some (.int .i64 c.y) := by
  obtain ⟨b, off, hA, hb, hc⟩ := h k (encSc c) (by simp [hx])
  exact ⟨b, off, hA, hb, by simpa using hc 0 _ rfl, hc 1 _ rfl, hc 2 _ rfl, hc 3 _ rfl, hc 4 _ rfl, hc 5 _ rfl, hc 6 _ rfl, hc 7 _ rfl, hc 8 _ rfl⟩

theorem nil_or_snoc {α : Type} (l : List α) : l = [] ∨ ∃ (r : List α) (x : α), l = r ++ [x] := by
  rcases List.eq_nil_or_concat l with h | ⟨r, x, h⟩
  · exact .inl h
  · exact .inr ⟨r, x, by rw [h, List.concat_eq_append]⟩
theorem endO_nil {d : Int} {now : Sc} (h : ¬now.f = d) : endO d now [] = [] ++ [{ now with t := d }] := by rw [endO, if_neg h]; rfl
theorem endO_yes {d : Int} {now last : Sc} {r : List Sc} (h : ¬now.f = d) (hh : holdsB last now = true) : endO d now (r ++ [last]) = r ++ [{ last with t := d }] := by
  rw [endO, if_neg h]; simp [hh]
theorem endO_no {d : Int} {now last : Sc} {r : List Sc} (h : ¬now.f = d) (hh : holdsB last now = false) : endO d now (r ++ [last]) = (r ++ [last]) ++ [{ now with t := d }] := by
  rw [endO, if_neg h]; simp [hh]
theorem CR.push {w0 wB w wa : World} {G H cap c1 n : Nat} {ks out : List Sc} {A A1 : Option Addr} {s : Sc} (h : CR w0 wB G H ks out A cap w) (hg : w.grownBy wa (blk A)) (hn : n = out.length + 1) (ho : OwnS wa wB.heap.size 121 9 A1 n c1 (out.map encSc ++ [encSc s]))
    (ha : blk A1 = blk A ∨ blk A1 = some w.heap.size) : CR w0 wB G H ks (out ++ [s]) A1 c1 (wa.setCell ⟨H, 0, none⟩ (.slice A1 n c1)) := by
  subst hn
  have hlt := h.lt
  have hgh := h.gh
  have hhb := h.hb
  have hA : ∀ k, blk A = some k → wB.heap.size ≤ k := fun k hk => (h.own.lt k hk).1
  have hA1 : ∀ k, blk A1 = some k → wB.heap.size ≤ k := fun k hk => (ho.lt k hk).1
  have hsz := hg.size
  refine ⟨?_, ?_, fun x hx => ?_, fun x hx b hb => ?_, ?_, h.ge, by simp; omega, h.gh, fun x hx b hb => by have := h.al x hx b hb; simp; omega, h.hb, by have := h.sz; simp; omega, fun b h1 h2 h3 => ?_⟩
  · have h1 := h.bo.grown hg (fun e => by have := hA _ e.symm; omega)
    rw [List.length_append, List.length_singleton]
    exact h1.set_ 0 (.slice A1 (out.length + 1) c1)
  · rw [List.map_append, List.length_append, List.length_singleton]
    exact ho.far (fun k hk => by have := hA1 k hk; simp; omega) _
  · refine SV.setFar ((h.sv x hx).only (fun b hb => ?_) hsz) (fun b hb => (h.ap x hx b hb).2.1) _
    have hap := h.ap x hx b hb
    exact hg.block b (h.al x hx b hb) (fun e => hap.2.2 e.symm)
  · have hap := h.ap x hx b hb
    refine ⟨hap.1, hap.2.1, fun e => ?_⟩
    rcases ha with ha | ha
    · exact hap.2.2 (ha ▸ e)
    · have := h.al x hx b hb
      rw [ha] at e
      cases e
      omega
  · exact (h.be.grown hg (by have := h.ge; have := h.gh; have := h.hb; omega) (fun k hk => by have := hA k hk; have := h.ge; have := h.gh; have := h.hb; omega)).setCell (by have := h.ge; have := h.gh; have := h.hb; simp; omega) _
  · exact (heap_setCell_other wa ⟨H, 0, none⟩ b _ h3).trans ((hg.block b (by have := h.sz; omega) (fun e => by have := hA b e.symm; omega)).trans (h.fr b h1 h2 h3))
theorem CR.last {w0 wB w : World} {G H cap g : Nat} {ks r : List Sc} {last : Sc} {d : Int} (h : CR w0 wB G H ks (r ++ [last]) (some ⟨g, 0, none⟩) cap w) : CR w0 wB G H ks (r ++ [{ last with t := d }]) (some ⟨g, 0, none⟩) cap (w.setCell ⟨g, r.length * 9 + 1, none⟩ (.int .i64 d)) := by
  have hA := h.own.lt g rfl
  have hgh := h.gh
  have hhb := h.hb
  refine ⟨?_, ?_, fun x hx => (h.sv x hx).setFar (fun b hb => fun e => (h.ap x hx b hb).2.2 (by rw [e]; rfl)) _, h.ap, h.be.setCell (by have := h.ge; have := h.gh; have := h.hb; simp; omega) _, h.ge, by simpa using h.lt, h.gh, fun x hx b hb => by simpa using h.al x hx b hb, h.hb, by simpa using h.sz, fun b h1 h2 h3 => (heap_setCell_other w ⟨g, r.length * 9 + 1, none⟩ b _ (by simp; omega)).trans (h.fr b h1 h2 h3)⟩
  · have := h.bo.far (p := ⟨g, r.length * 9 + 1, none⟩) (by simp; omega) (.int .i64 d)
    simpa using this
  · have hrow : ((r ++ [last]).map encSc)[r.length]? = some (encSc last) := by simp
    have := h.own.set_ (i := r.length) (j := 1) (row := encSc last) hrow (by omega) (u := .int .i64 d) rfl
    rw [show ((r ++ [last]).map encSc).set r.length ((encSc last).set 1 (.int .i64 d)) = (r ++ [{ last with t := d }]).map encSc by
      rw [List.map_append, List.map_append, List.set_append_right _ _ (by simp)]
      simp [encSc]] at this
    simpa using this

set_option maxRecDepth 100000 in
set_option maxHeartbeats 4000000 in
theorem end_any (w0 wB : World) (G H : Nat) (now : Sc) (out : List Sc) (A : Option Addr) (cap : Nat) (d : Int) (w : World) (hB : Blk w G 121 (scC now)) (hR : CR w0 wB G H (now :: out) out A cap w) (hl : out.length ≤ 100000) :
    Calls Tryz.prog 72 #[.int .i64 d, .pointer (some ⟨G, 0, none⟩), .pointer (some ⟨H, 0, none⟩)] w (EndP w0 wB G H now out d) := by
  have HB := hide hB
  have HR := hide hR
  have hG := hR.lt
  have hGH := hR.gh
  have hHB := hR.hb
  have g0 : w.cell? ⟨G, 0, none⟩ = some (.int .i64 now.f) := hB.cell 0
  have g1 : w.cell? ⟨G, 1, none⟩ = some (.int .i64 now.t) := hB.cell 1
  have g2 : w.cell? ⟨G, 2, none⟩ = some (.bool now.on) := hB.cell 2
  have g3 : w.cell? ⟨G, 3, none⟩ = some (.int .i64 now.rk) := hB.cell 3
  have g4 : w.cell? ⟨G, 4, none⟩ = some (.int .i64 now.rv) := hB.cell 4
  have g5 : w.cell? ⟨G, 5, none⟩ = some (.int .i64 now.ra) := hB.cell 5
  have g6 : w.cell? ⟨G, 6, none⟩ = some (.int .i64 now.rz) := hB.cell 6
  have g7 : w.cell? ⟨G, 7, none⟩ = some (.slice now.A now.l.length now.cap) := hB.cell 7
  have g8 : w.cell? ⟨G, 8, none⟩ = some (.int .i64 now.y) := hB.cell 8
  have o0 : w.cell? ⟨H, 0, none⟩ = some (.slice A out.length cap) := hR.bo.cell 0
  have f0 := hB.frozen 0
  have fo := hR.bo.frozen 0
  have hG0 : G < w.heap.size := by omega
  clear hB hR
  by_cases hf : now.f = d
  · have hq : (now.f == d) = true := by simpa using hf
    have HE := hide (show endO d now out = out by rw [endO, if_pos hf])
    clear hf
    go_enter Tryz.func72, Tryz.ntmps72
    go_wp2_with fail
    go_end0
    refine ⟨rfl, A, cap, ?_, ?_⟩
    · exact (HB.out.set_ 0 _).alloc _
    · rw [HE.out]
      exact ((HR.out.setG 0 _).alloc _).keys (sub_now rfl rfl rfl)
  · have hq : (now.f == d) = false := by simpa using hf
    obtain ⟨w1, hw1⟩ : ∃ W, w.alloc (.cells (scC { now with t := d }) 121) = W := ⟨_, rfl⟩
    have hS : Blk w1 w.heap.size 121 (scC { now with t := d }) := by rw [← hw1]; exact Blk.new _ _ _
    have hb1 : Below w.heap.size w w1 := by rw [← hw1]; exact (Below.refl _ _).alloc (Nat.le_refl _) _
    have hlt1 := hS.lt
    have k0 : w1.cell? ⟨w.heap.size, 0, none⟩ = some (.int .i64 now.f) := hS.cell 0
    have k1 : w1.cell? ⟨w.heap.size, 1, none⟩ = some (.int .i64 d) := hS.cell 1
    have k2 : w1.cell? ⟨w.heap.size, 2, none⟩ = some (.bool now.on) := hS.cell 2
    have k3 : w1.cell? ⟨w.heap.size, 3, none⟩ = some (.int .i64 now.rk) := hS.cell 3
    have k4 : w1.cell? ⟨w.heap.size, 4, none⟩ = some (.int .i64 now.rv) := hS.cell 4
    have k5 : w1.cell? ⟨w.heap.size, 5, none⟩ = some (.int .i64 now.ra) := hS.cell 5
    have k6 : w1.cell? ⟨w.heap.size, 6, none⟩ = some (.int .i64 now.rz) := hS.cell 6
    have k7 : w1.cell? ⟨w.heap.size, 7, none⟩ = some (.slice now.A now.l.length now.cap) := hS.cell 7
    have k8 : w1.cell? ⟨w.heap.size, 8, none⟩ = some (.int .i64 now.y) := hS.cell 8
    have HW1 := hide hw1
    have HB1 := hide (HB.out.below hb1 hG0)
    have HR1 := hide (HR.out.below hb1)
    have p0 := kept hb1 o0
    clear hw1 hS hb1
    rcases nil_or_snoc out with rfl | ⟨r, last, rfl⟩
    · have HE := hide (endO_nil hf)
      have hn : ([] : List Sc).length = 0 := rfl
      rw [hn] at o0 p0
      clear hf hn
      go_enter Tryz.func72, Tryz.ntmps72
      go_wp2_with fail
      rw [show w.alloc (.cells #[.int .i64 now.f, .int .i64 d, .bool now.on, .int .i64 now.rk, .int .i64 now.rv, .int .i64 now.ra, .int .i64 now.rz, .slice now.A now.l.length now.cap, .int .i64 now.y] 121) = w1 from HW1.out]
      refine wp_region_class (fun W => Below w1.heap.size w1 W) (by kernel_rfl) (by kernel_rfl) (Below.refl _ _).drew ?_
      repeat (first
        | go_big_quiet_skip
        | (go_big_quiet_want
           first
             | (go_big_quiet_op
                go_big_quiet_on)
             | (refine quiet_yield (v := ?_) ?_ ?_
                rotate_left
                · intro W hW
                  have p0 := kept hW p0
                  clear hW
                  go_simp
                  try with_reducible rfl
                simp only [Act.put, List.setIfInBounds_toArray, List.set_cons_zero, List.set_cons_succ]
                go_big_quiet_on)))
      refine wpQuiet_nil ?_
      intro W hW
      have HR2 := hide (HR1.out.below hW)
      have HB2 := hide (HB1.out.below hW (by omega))
      have p1 := kept hW p0
      have k0 := kept hW k0
      have k1 := kept hW k1
      have k2 := kept hW k2
      have k3 := kept hW k3
      have k4 := kept hW k4
      have k5 := kept hW k5
      have k6 := kept hW k6
      have k7 := kept hW k7
      have k8 := kept hW k8
      have q0 := HB2.out.frozen 0
      have q1 := HR2.out.bo.frozen 0
      have lz := HR2.out.lt
      have lz2 := HR2.out.sz
      clear hW
      have HRA := hide (HR2.out.alloc (.cells (scC { now with t := d }) 121))
      have HGA := hide (HB2.out.alloc (.cells (scC { now with t := d }) 121))
      go_wp2_with (at_builtin
                   refine wpList_app rfl (.tmp 13) (.tmp 15) 71 rfl elSlc (B := wB.heap.size) (rows := ([] : List Sc).map encSc) (A2 := some ⟨_, 0, none⟩) (news := [encSc { now with t := d }]) rfl ?_ rfl rfl ?_ (okSlc [{ now with t := d }]) ?_ ?_ ?_ ?_
                   · exact HRA.out.own
                   · exact sl_of_blk (cs := scC { now with t := d }) (Blk.new _ _ _)
                   · simp only [maxLen]; omega
                   · omega
                   · simp; omega
                   intro A1 c1 wa ho1 hg1 ha1
                   have hne : ∀ k, blk A = some k → wB.heap.size ≤ k := fun k hk => (HRA.out.own.lt k hk).1
                   have hbo := HRA.out.bo.grown hg1 (fun e => by have := hne _ e.symm; omega)
                   have hbG := HGA.out.grown hg1 (fun e => by have := hne _ e.symm; omega)
                   have HP := hide (HRA.out.push (s := { now with t := d }) (n := 0 + 1) hg1 (by simp) ho1 ha1)
                   have t0 := hbo.frozen 0
                   have t1 := hbG.frozen 0
                   have t2 := hbo.cell 0
                   have t3 : wa.cell? ⟨G, 0, none⟩ = some (.int .i64 now.f) := hbG.cell 0
                   have t4 := hbG.lt
                   have t5 := hbo.lt
                   have HBG := hide hbG
                   simp at t2
                   clear hbo hbG hg1 ho1 ha1 hne)
      go_end0
      refine ⟨rfl, A1, c1, ?_, ?_⟩
      · exact (HBG.out.far (by simp; omega) _).set_ 0 _
      · rw [HE.out]
        refine (CR.setG HP.out 0 _).keys (fun x hx => ?_)
        rcases List.mem_cons.1 hx with rfl | hx
        · exact ⟨now, by simp, rfl, rfl, rfl⟩
        · rcases List.mem_append.1 hx with hx | hx
          · exact ⟨x, by simp only [List.mem_cons]; exact .inr hx, rfl, rfl, rfl⟩
          · rw [List.mem_singleton] at hx
            subst hx
            exact ⟨now, by simp, rfl, rfl, rfl⟩
    · have hlen : (r ++ [last]).length = r.length + 1 := by simp
      rw [hlen] at o0 p0 hl
      obtain ⟨gb, rfl⟩ : ∃ g, A = some ⟨g, 0, none⟩ := by
        rcases HR.out.own.addr with ⟨-, h0, -⟩ | ⟨g, hg, -⟩
        · simp at h0
        · exact ⟨g, hg⟩
      obtain ⟨b, off, hA, hbl, c0, c1, c2, c3, c4, c5, c6, c7, c8⟩ := HR1.out.own.sl.sc (k := r.length) (c := last) (by simp)
      obtain ⟨rfl, rfl⟩ : gb = b ∧ 0 = off := by simpa using hA
      simp only [Nat.zero_add] at c0 c1 c2 c3 c4 c5 c6 c7 c8
      obtain ⟨m, hm⟩ : ∃ m, r.length = m := ⟨_, rfl⟩
      have HM := hide hm
      rw [hm] at o0 p0 hl c0 c1 c2 c3 c4 c5 c6 c7 c8
      have hcap : m + 1 ≤ cap := by have := HR.out.own.cap_le.1; simp at this; omega
      have hm0 : (0 : Int) ≤ (m : Int) := by omega
      have hm1 : (m : Int) < ((m + 1 : Nat) : Int) := by omega
      have hm2 : (m : Int) < (m : Int) + 1 := by omega
      obtain ⟨B, hBB⟩ : ∃ B, holdsB last now = B := ⟨_, rfl⟩
      have HBB := hide hBB
      have HC := hide (show ∀ W, Below w1.heap.size w1 W → Calls Tryz.prog 73 #[.agg #[.int .i64 last.f, .int .i64 last.t, .bool last.on, .int .i64 last.rk, .int .i64 last.rv, .int .i64 last.ra, .int .i64 last.rz, .slice last.A last.l.length last.cap, .int .i64 last.y], .agg #[.int .i64 now.f, .int .i64 d, .bool now.on, .int .i64 now.rk, .int .i64 now.rv, .int .i64 now.ra, .int .i64 now.rz, .slice now.A now.l.length now.cap, .int .i64 now.y]] W fun e w' => e = .returned (.bool B) ∧ Below w1.heap.size w1 w' from fun W hW =>
        (holds_any last { now with t := d } W ((HR1.out.below hW).sv last (by simp)) ((HR1.out.below hW).sv now (by simp))).mono fun e w' h => ⟨by rw [h.1, ← hBB]; rfl, chain hW h.2⟩)
      have HF := hide hf
      clear hf hlen hm hBB hA
      go_enter Tryz.func72, Tryz.ntmps72
      go_wp2_with fail
      rw [show w.alloc (.cells #[.int .i64 now.f, .int .i64 d, .bool now.on, .int .i64 now.rk, .int .i64 now.rv, .int .i64 now.ra, .int .i64 now.rz, .slice now.A now.l.length now.cap, .int .i64 now.y] 121) = w1 from HW1.out]
      refine wp_region_class (fun W => Below w1.heap.size w1 W) (by kernel_rfl) (by kernel_rfl) (Below.refl _ _).drew ?_
      repeat (first
        | go_big_quiet_skip
        | (go_big_quiet_want
           first
             | (go_big_quiet_op
                go_big_quiet_on)
             | (refine quiet_call (v := .bool B) (f := 73) (args := #[.agg #[.int .i64 last.f, .int .i64 last.t, .bool last.on, .int .i64 last.rk, .int .i64 last.rv, .int .i64 last.ra, .int .i64 last.rz, .slice last.A last.l.length last.cap, .int .i64 last.y], .agg #[.int .i64 now.f, .int .i64 d, .bool now.on, .int .i64 now.rk, .int .i64 now.rv, .int .i64 now.ra, .int .i64 now.rz, .slice now.A now.l.length now.cap, .int .i64 now.y]]) ?_ ?_ ?_
                · intro W hW
                  have p0 := kept hW p0
                  have k0 := kept hW k0
                  have k1 := kept hW k1
                  have k2 := kept hW k2
                  have k3 := kept hW k3
                  have k4 := kept hW k4
                  have k5 := kept hW k5
                  have k6 := kept hW k6
                  have k7 := kept hW k7
                  have k8 := kept hW k8
                  have c0 := kept hW c0
                  have c1 := kept hW c1
                  have c2 := kept hW c2
                  have c3 := kept hW c3
                  have c4 := kept hW c4
                  have c5 := kept hW c5
                  have c6 := kept hW c6
                  have c7 := kept hW c7
                  have c8 := kept hW c8
                  clear hW
                  go_simp
                  done
                · intro W hW
                  exact HC.out W hW
                simp only [Act.put, List.setIfInBounds_toArray, List.set_cons_zero, List.set_cons_succ]
                go_big_quiet_on)
             | (refine quiet_yield (v := ?_) ?_ ?_
                rotate_left
                · intro W hW
                  have p0 := kept hW p0
                  have k0 := kept hW k0
                  have k1 := kept hW k1
                  have k2 := kept hW k2
                  have k3 := kept hW k3
                  have k4 := kept hW k4
                  have k5 := kept hW k5
                  have k6 := kept hW k6
                  have k7 := kept hW k7
                  have k8 := kept hW k8
                  have c0 := kept hW c0
                  have c1 := kept hW c1
                  have c2 := kept hW c2
                  have c3 := kept hW c3
                  have c4 := kept hW c4
                  have c5 := kept hW c5
                  have c6 := kept hW c6
                  have c7 := kept hW c7
                  have c8 := kept hW c8
                  clear hW
                  go_simp
                  try with_reducible rfl
                simp only [Act.put, List.setIfInBounds_toArray, List.set_cons_zero, List.set_cons_succ]
                go_big_quiet_on)))
      refine wpQuiet_nil ?_
      intro W hW
      cases B
      · have HE := hide (endO_no (r := r) HF.out HBB.out)
        have HR2 := hide (HR1.out.below hW)
        have HB2 := hide (HB1.out.below hW (by omega))
        have p1 := kept hW p0
        have k0 := kept hW k0
        have k1 := kept hW k1
        have k2 := kept hW k2
        have k3 := kept hW k3
        have k4 := kept hW k4
        have k5 := kept hW k5
        have k6 := kept hW k6
        have k7 := kept hW k7
        have k8 := kept hW k8
        have q0 := HB2.out.frozen 0
        have q1 := HR2.out.bo.frozen 0
        have lz := HR2.out.lt
        have lz2 := HR2.out.sz
        clear hW
        have HRA := hide (HR2.out.alloc (.cells (scC { now with t := d }) 121))
        have HGA := hide (HB2.out.alloc (.cells (scC { now with t := d }) 121))
        go_wp2_with (at_builtin
                     refine wpList_app rfl (.tmp 13) (.tmp 15) 71 rfl elSlc (B := wB.heap.size) (rows := (r ++ [last]).map encSc) (A2 := some ⟨_, 0, none⟩) (news := [encSc { now with t := d }]) rfl ?_ rfl rfl ?_ (okSlc [{ now with t := d }]) ?_ ?_ ?_ ?_
                     · have hx := HRA.out.own; rw [show (r ++ [last]).length = m + 1 by simp [HM.out]] at hx; exact hx
                     · exact sl_of_blk (cs := scC { now with t := d }) (Blk.new _ _ _)
                     · simp only [maxLen]; omega
                     · omega
                     · simp; omega
                     intro A1 c1 wa ho1 hg1 ha1
                     have hne : ∀ k, blk (some (⟨gb, 0, none⟩ : Addr)) = some k → wB.heap.size ≤ k := fun k hk => (HRA.out.own.lt k hk).1
                     have hbo := HRA.out.bo.grown hg1 (fun e => by have := hne _ e.symm; omega)
                     have hbG := HGA.out.grown hg1 (fun e => by have := hne _ e.symm; omega)
                     have HP := hide (HRA.out.push (s := { now with t := d }) (n := m + 1 + 1) hg1 (by have := HM.out; simp; omega) ho1 ha1)
                     have t0 := hbo.frozen 0
                     have t1 := hbG.frozen 0
                     have t2 := hbo.cell 0
                     have t3 : wa.cell? ⟨G, 0, none⟩ = some (.int .i64 now.f) := hbG.cell 0
                     have t4 := hbG.lt
                     have t5 := hbo.lt
                     have HBG := hide hbG
                     simp at t2
                     clear hbo hbG hg1 ho1 ha1 hne)
        go_end0
        refine ⟨rfl, A1, c1, ?_, ?_⟩
        · exact (HBG.out.far (by simp; omega) _).set_ 0 _
        · rw [HE.out]
          refine (CR.setG HP.out 0 _).keys (fun x hx => ?_)
          rcases List.mem_cons.1 hx with rfl | hx
          · exact ⟨now, by simp, rfl, rfl, rfl⟩
          · rcases List.mem_append.1 hx with hx | hx
            · exact ⟨x, by simp only [List.mem_cons]; exact .inr hx, rfl, rfl, rfl⟩
            · rw [List.mem_singleton] at hx
              subst hx
              exact ⟨now, by simp, rfl, rfl, rfl⟩
      · have HE := hide (endO_yes (r := r) HF.out HBB.out)
        have HR2 := hide (HR1.out.below hW)
        have HB2 := hide (HB1.out.below hW (by omega))
        have p1 := kept hW p0
        have q0 := HB2.out.frozen 0
        have e1 := kept hW c1
        have lz : gb < W.heap.size := by have := hW.size; omega
        have q1 : W.frozen? ⟨gb, m * 9 + 1, none⟩ = false := HR2.out.own.frozen _
        have q2 : W.cell? ⟨G, 0, none⟩ = some (.int .i64 now.f) := HB2.out.cell 0
        have hgb := (HR2.out.own.lt gb rfl).1
        have hne1 : ¬ gb = G := by omega
        have hne2 : ¬ G = gb := by omega
        clear c0 c1 c2 c3 c4 c5 c6 c7 c8 k0 k1 k2 k3 k4 k5 k6 k7 k8 hW
        go_wp2_with fail
        go_end0
        refine ⟨rfl, some ⟨gb, 0, none⟩, cap, ?_, ?_⟩
        · exact (HB2.out.far (by simp; omega) _).set_ 0 _
        · rw [HE.out]
          have hl := HR2.out.last (d := d)
          rw [HM.out] at hl
          refine (hl.setG 0 _).keys (fun x hx => ?_)
          rcases List.mem_cons.1 hx with rfl | hx
          · exact ⟨now, by simp, rfl, rfl, rfl⟩
          · rcases List.mem_append.1 hx with hx | hx
            · exact ⟨x, by simp only [List.mem_cons, List.mem_append]; exact .inr (.inl hx), rfl, rfl, rfl⟩
            · rw [List.mem_singleton] at hx
              subst hx
              exact ⟨last, by simp, rfl, rfl, rfl⟩
end Go.Proofs.YtmfohnchnbgbaaaGreatDoor
