/- Part 42 of the proof. -/
import Derived.WalkLawsBesides
import Derived.Recover
import Derived.Defers
import Derived.Test.YtmfohnchnbgbaaaGreatDoorYpM23
import Derived.Test.YtmfohnchnbgbaaaGreatDoorYpM41
/- What is earned: the curve of slices. -/
namespace Go.Proofs.YtmfohnchnbgbaaaGreatDoor
open Go.RowKit

def fullA (f t y e : Int) : Bool := decide (e ≤ f ∧ f < t ∧ t ≤ 292195 ∧ 0 ≤ y ∧ y ≤ 4000000000000000000)
theorem fullA_any (x : Sc) (e : Int) (w : World) :
    Calls Tryz.prog 82 #[.agg #[.int .i64 x.f, .int .i64 x.t, .bool x.on, .int .i64 x.rk, .int .i64 x.rv, .int .i64 x.ra, .int .i64 x.rz, .slice x.A x.l.length x.cap, .int .i64 x.y], .int .i64 e] w fun en w' => en = .returned (.bool (fullA x.f x.t x.y e)) ∧ Below w.heap.size w w' := by
  by_cases h1 : e ≤ x.f
  · by_cases h2 : x.f < x.t
    · by_cases h3 : x.t ≤ 292195
      · go_enter Tryz.func82, Tryz.ntmps82
        go_wp2
        all_goals
          go_ret
          exact ⟨ret_bool (by rw [Bool.eq_iff_iff]; simp [fullA]; omega), (Below.refl _ _).alloc (Nat.le_refl _) _⟩
      · have hF : fullA x.f x.t x.y e = false := by simp [fullA]; omega
        rw [hF]
        clear hF
        go_enter Tryz.func82, Tryz.ntmps82
        go_wp2
        go_ret
        exact ⟨rfl, (Below.refl _ _).alloc (Nat.le_refl _) _⟩
    · have hF : fullA x.f x.t x.y e = false := by simp [fullA]; omega
      rw [hF]
      clear hF
      go_enter Tryz.func82, Tryz.ntmps82
      go_wp2
      go_ret
      exact ⟨rfl, (Below.refl _ _).alloc (Nat.le_refl _) _⟩
  · have hF : fullA x.f x.t x.y e = false := by simp [fullA]; omega
    rw [hF]
    clear hF
    go_enter Tryz.func82, Tryz.ntmps82
    go_wp2
    go_ret
    exact ⟨rfl, (Below.refl _ _).alloc (Nat.le_refl _) _⟩
theorem must_ok (w : World) : Calls Tryz.prog 79 #[.int .i64 0] w fun e w' => e = .returned (.tuple #[]) ∧ w' = w := by
  go_enter Tryz.func79, Tryz.ntmps79
  go_wp2
  go_end0
  exact ⟨rfl, rfl⟩
theorem must_no (k : Int) (hk : k ≠ 0) (w : World) : Calls Tryz.prog 79 #[.int .i64 k] w fun e w' => e = .panicked [{ v := .iface 27 (.int .i64 k), recovered := false }] ∧ w' = w := by
  have hq : (k != 0) = true := by simpa using hk
  clear hk
  go_enter Tryz.func79, Tryz.ntmps79
  go_wp2
  exact ⟨rfl, rfl, rfl⟩
set_option maxRecDepth 100000 in
theorem told_no (p : Addr) (x k : Int) (older : List PanicEntry) (w : World) (hc : w.cell? p = some (.int .i64 x)) (hz : w.frozen? p = false) :
    CallsD Tryz.prog 41 #[.pointer (some p)] (.panicking ({ v := .iface 27 (.int .i64 k), recovered := false } :: older)) w fun e u' w' =>
      e = .returned (.tuple #[]) ∧ u' = .panicking ({ v := .iface 27 (.int .i64 k), recovered := true } :: older) ∧ w' = w.setCell p (.int .i64 k) := by
  refine callsD_of_wpS Tryz.func41 rfl fun c₀ cs hu => ?_
  apply wpS_seq
  apply wpS_region
  simp [wpOpsS, go_sem, recoverD, hu, Tryz.ntmps41, Exit.thenS]
  apply wpS_seq
  apply wpS_region
  simp [wpOpsS, go_sem, Exit.thenS]
  refine wpS_cond (t := true) (by simp [Act.eval, Array.replicate]) ?_
  simp only [if_true]
  rw [show (#[Value.pointer (some p)] ++ ((((Array.replicate 12 undef).setIfInBounds 2 (Value.iface 27 (Value.int IntKind.i64 k))).setIfInBounds 1 (Value.iface 27 (Value.int IntKind.i64 k))).setIfInBounds 3 (Value.iface 27 (Value.int IntKind.i64 k))).setIfInBounds 4 (Value.bool true)) =
    #[Value.pointer (some p), undef, .iface 27 (.int .i64 k), .iface 27 (.int .i64 k), .iface 27 (.int .i64 k), .bool true, undef, undef, undef, undef, undef, undef, undef] from by simp [Array.replicate]]
  refine wpS_of_wp (Code.wp_mono (Q := fun e a' w' => e = .normal ∧ a'.defers = [] ∧ w' = w.setCell p (.int .i64 k)) ?_ ?_)
  · rintro e a' w' ⟨rfl, hd, rfl⟩
    exact ⟨hd, _, rfl, _, by simp [results, Tryz.results41], rfl, rfl, rfl⟩
  clear hu
  have hta : ∀ w : World, (Instr.typeAssert (Value.iface 27 (Value.int IntKind.i64 k)) 20 27 true).run Tryz.prog w = .ok (.tuple #[.int .i64 k, .bool true]) w := fun w => by first | rfl | (simp [go_sem]; done) | kernel_rfl
  go_wp2
theorem told_ok (p : Addr) (w : World) :
    CallsD Tryz.prog 41 #[.pointer (some p)] .returning w fun e u' w' => e = .returned (.tuple #[]) ∧ u' = .returning ∧ w' = w := by
  refine callsD_of_wpS Tryz.func41 rfl fun c₀ cs hu => ?_
  apply wpS_seq
  apply wpS_region
  simp [wpOpsS, go_sem, recoverD, hu, Tryz.ntmps41, Exit.thenS]
  apply wpS_seq
  apply wpS_region
  simp [wpOpsS, go_sem, Exit.thenS]
  refine wpS_cond (t := false) (by simp [Act.eval, Array.replicate]) ?_
  simp only [Bool.false_eq_true, if_false]
  refine wpS_of_wp (wp_skip ?_)
  cases c₀
  simp_all [bodyPostS, results, Tryz.results41]
end Go.Proofs.YtmfohnchnbgbaaaGreatDoor

/- What is earned: the curve of the slices. -/
namespace Go.Proofs.YtmfohnchnbgbaaaGreatDoor
open Go.RowKit

def AddcAny : Prop := ∀ (B F : Nat) (A A2 : Option Addr) (c c2 : Nat) (s : List Int × List Int) (d v : Int) (w : World), FS w B F A A2 c c2 s → s.1.length ≤ 100000 →
    Calls Tryz.prog 81 #[.int .i64 d, .int .i64 v, .pointer (some ⟨F, 0, none⟩)] w (AdcP w B F A A2 (addV d v s))
theorem addc_all : AddcAny := fun B F A A2 c c2 s d v w h hl => addc_any B F A A2 c c2 s d v w h hl
def chainS : Int → List Sc → Bool
  | _, [] => true
  | e, x :: r => fullA x.f x.t x.y e && chainS x.t r
def stF (s : List Int × List Int) (x : Sc) : List Int × List Int := addV x.t 0 (addV x.f x.y s)
def curF (l : List Sc) : List Int × List Int := l.foldl stF ([], [])
def curK (l : List Sc) : Int := if 2000 < l.length then 1 else if chainS 1 l = true then 0 else 1
theorem curF_take {l : List Sc} {k : Nat} {c : Sc} (h : l[k]? = some c) : curF (l.take (k + 1)) = stF (curF (l.take k)) c := by rw [take_of h, curF, curF, List.foldl_append]; rfl
theorem chainS_drop {l : List Sc} {k : Nat} {c : Sc} {e : Int} (h : l[k]? = some c) : chainS e (l.drop k) = (fullA c.f c.t c.y e && chainS c.t (l.drop (k + 1))) := by
  obtain ⟨hk, hc⟩ := List.getElem?_eq_some_iff.1 h
  rw [List.drop_eq_getElem_cons hk, hc]; rfl
theorem addV_len (d v : Int) (s : List Int × List Int) : (addV d v s).1.length ≤ s.1.length + 1 := by
  unfold addV pushV popV
  split <;> split <;> simp <;> omega
theorem curF_len : ∀ (l : List Sc), (curF l).1.length ≤ 2 * l.length := by
  intro l
  rcases nil_or_snoc l with rfl | ⟨r, x, rfl⟩
  · simp [curF]
  · have h1 := curF_len r
    have h2 := addV_len x.f x.y (curF r)
    have h3 := addV_len x.t 0 (addV x.f x.y (curF r))
    have : curF (r ++ [x]) = stF (curF r) x := by rw [curF, curF, List.foldl_append]; rfl
    rw [this, stF]
    simp only [List.length_append, List.length_singleton]
    omega
termination_by l => l.length
decreasing_by simp_all
def pan (k : Int) : Ending := .panicked [{ v := .iface 27 (.int .i64 k), recovered := false }]
def CurP (l : List Sc) (w : World) (e : Ending) (w' : World) : Prop :=
  Below w.heap.size w w' ∧ (curK l = 1 ∧ e = pan 1 ∨ curK l = 0 ∧ ∃ (A1 A2 : Option Addr) (c1 c2 : Nat), e = .returned (.agg #[.slice A1 (curF l).1.length c1, .slice A2 (curF l).2.length c2]) ∧
    SV w' 1 A1 (curF l).1.length c1 ((curF l).1.map encI) ∧ SV w' 1 A2 (curF l).2.length c2 ((curF l).2.map encI))
theorem FS.below {w w' : World} {B F : Nat} {A A2 : Option Addr} {c c2 : Nat} {s : List Int × List Int} (h : FS w B F A A2 c c2 s) (hb : Below w.heap.size w w') : FS w' B F A A2 c c2 s :=
  ⟨h.f.below hb h.f.lt, h.o1.below hb, h.o2.below hb, h.ap, h.gt, Nat.le_trans h.sz hb.size, h.ln⟩
theorem below_of {w w' : World} {B : Nat} (hk : w'.os = w.os ∧ w'.tape = w.tape ∧ w'.output = w.output) (hg : w.heap.size ≤ w'.heap.size) (h : ∀ b, b < B → w'.heap[b]? = w.heap[b]?) : Below B w w' := ⟨hk.1, hk.2.1, hk.2.2, hg, h⟩
set_option maxRecDepth 100000 in
set_option maxHeartbeats 4000000 in
theorem curve_any (HADD : AddcAny) (A : Option Addr) (cap n : Nat) (l : List Sc) (w : World) (hs : SV w 9 A n cap (l.map encSc)) :
    Calls Tryz.prog 43 #[.slice A n cap] w (CurP l w) := by
  have hmf : ∀ (fn : Fn) (first cap : Array Value) (w : World), (Instr.makeFunc fn first cap).run Tryz.prog w = .ok (.func fn first cap) w := fun _ _ _ _ => rfl
  have hn : l.length = n := by have := hs.len; simpa using this
  have HN := hide hn
  have HS := hide hs
  have HMU := hide (must_no 1 (by decide))
  have HAD := hide HADD
  obtain ⟨C, hC⟩ : ∃ C, chainS 1 l = C := ⟨_, rfl⟩
  have HC := hide hC
  clear hC HADD
  by_cases hm : 2000 < n
  · have HK := hide (show curK l = 1 by rw [curK, HN.out, if_pos hm])
    have hm1 : (2000 : Int) < (n : Int) := by omega
    clear hm hn hs
    go_enter Tryz.func43, Tryz.ntmps43
    go_wp2_with fail
    refine (HMU.out _).mono ?_
    rintro e w' ⟨rfl, rfl⟩
    go_wp2_with fail
    exact ⟨rfl, (Below.refl _ _).alloc (Nat.le_refl _) _, .inl ⟨HK.out, rfl⟩⟩
  have hm1 : (n : Int) ≤ 2000 := by omega
  have hm2 : n ≤ 2000 := by omega
  obtain ⟨w1, hw1⟩ : ∃ W, (w.alloc (.cells #[.slice none 0 0, .slice none 0 0] 127)).alloc (.cells #[.slice none 0 0, .slice none 0 0] 127) = W := ⟨_, rfl⟩
  have hb1 : Below w.heap.size w w1 := by rw [← hw1]; exact ((Below.refl _ _).alloc (Nat.le_refl _) _).alloc (by simp) _
  have hr1 : Blk w1 w.heap.size 127 #[.slice none 0 0, .slice none 0 0] := by rw [← hw1]; exact (Blk.new _ _ _).alloc _
  have hf1 : Blk w1 (w.heap.size + 1) 127 #[.slice none 0 0, .slice none 0 0] := by rw [← hw1]; exact Blk.new' (by simp)
  have hz1 : w1.heap.size = w.heap.size + 2 := by rw [← hw1]; simp
  have HFS := hide (show FS w1 (w.heap.size + 2) (w.heap.size + 1) none none 0 0 (curF (l.take 0)) from
    ⟨by simpa [curF] using hf1, by simpa [curF] using OwnS.nil_ _ _ _ _, by simpa [curF] using OwnS.nil_ _ _ _ _, fun k h => by simp [blk] at h, by omega, by omega, rfl⟩)
  have H1 := hide hb1
  have HR1 := hide hr1
  have HW1 := hide hw1
  clear hb1 hr1 hf1 hw1 hs hn hm
  go_enter Tryz.func43, Tryz.ntmps43
  go_upto_region 4 with fail
  rw [show (w.alloc (.cells #[.slice none 0 0, .slice none 0 0] 127)).alloc (.cells #[.slice none 0 0, .slice none 0 0] 127) = w1 from HW1.out]
  clear HW1
  go_wp2_with fail
  go_loopw [5, 15] (fun e5 q wr => ∃ (i : Nat) (e : Int) (A1 A2 : Option Addr) (c1 c2 : Nat), i ≤ n ∧ q = .int .i64 i ∧ e5 = .int .i64 e ∧ FS wr (w.heap.size + 2) (w.heap.size + 1) A1 A2 c1 c2 (curF (l.take i)) ∧ chainS e (l.drop i) = C ∧ Below w.heap.size w wr ∧ Blk wr w.heap.size 127 #[.slice none 0 0, .slice none 0 0]) (fun _ q _ => n - (RowKit.intOf q).toNat)
  case atStart => exact ⟨0, 1, none, none, 0, 0, Nat.zero_le _, rfl, rfl, HFS.out, HC.out, H1.out, HR1.out⟩
  case round =>
    obtain ⟨i, ed, A1, A2, c1, c2, hi, rfl, rfl, hfs, hch, hb, hrr⟩ := hrel
    have HFS2 := hide hfs
    have HCH := hide hch
    have HB := hide hb
    have HRR := hide hrr
    have hsz := hfs.sz
    clear hfs hch hb hrr
    by_cases hlt : i < n
    · obtain ⟨s, hs⟩ := get_of (l := l) (k := i) (by rw [HN.out]; exact hlt)
      obtain ⟨g, off, hA, hbl, x0, x1, x2, x3, x4, x5, x6, x7, x8⟩ := (HS.out.below HB.out).sl.sc hs
      subst hA
      have HTK := hide (curF_take hs)
      have HDR := hide (chainS_drop (e := ed) hs)
      have HLE := hide (curF_len (l.take i))
      have hk0 : (0 : Int) ≤ (i : Int) := by omega
      have hk1 : (i : Int) < (n : Int) := by omega
      clear hs
      obtain ⟨w6, hw6⟩ : ∃ W, wr.alloc (.cells (scC s) 121) = W := ⟨_, rfl⟩
      have hb6 : Below wr.heap.size wr w6 := by rw [← hw6]; exact (Below.refl _ _).alloc (Nat.le_refl _) _
      have hS6 : Blk w6 wr.heap.size 121 (scC s) := by rw [← hw6]; exact Blk.new _ _ _
      have HW6 := hide hw6
      have HB6 := hide hb6
      have HS6 := hide hS6
      have hX := hS6.lt
      clear hw6 hb6 hS6
      go_upto_region 9 with fail
      rw [show wr.alloc (.cells #[.int .i64 s.f, .int .i64 s.t, .bool s.on, .int .i64 s.rk, .int .i64 s.rv, .int .i64 s.ra, .int .i64 s.rz, .slice s.A s.l.length s.cap, .int .i64 s.y] 121) = w6 from HW6.out]
      have HXA := hide (show blk A1 ≠ some wr.heap.size ∧ blk A2 ≠ some wr.heap.size ∧ w.heap.size + 2 ≤ wr.heap.size from ⟨fun e => by have := (HFS2.out.o1.lt _ e).2; omega, fun e => by have := (HFS2.out.o2.lt _ e).2; omega, hsz⟩)
      have HB62 := hide (chain HB.out HB6.out)
      have HF6 := hide (HFS2.out.below HB6.out)
      have HR6 := hide (HRR.out.below HB6.out (by omega))
      obtain ⟨X, hXX⟩ : ∃ X, wr.heap.size = X := ⟨_, rfl⟩
      rw [hXX] at HS6 HXA hX ⊢
      have k0 : w6.cell? ⟨X, 0, none⟩ = some (.int .i64 s.f) := HS6.out.cell 0
      have k1 : w6.cell? ⟨X, 1, none⟩ = some (.int .i64 s.t) := HS6.out.cell 1
      have k2 : w6.cell? ⟨X, 2, none⟩ = some (.bool s.on) := HS6.out.cell 2
      have k3 : w6.cell? ⟨X, 3, none⟩ = some (.int .i64 s.rk) := HS6.out.cell 3
      have k4 : w6.cell? ⟨X, 4, none⟩ = some (.int .i64 s.rv) := HS6.out.cell 4
      have k5 : w6.cell? ⟨X, 5, none⟩ = some (.int .i64 s.ra) := HS6.out.cell 5
      have k6 : w6.cell? ⟨X, 6, none⟩ = some (.int .i64 s.rz) := HS6.out.cell 6
      have k7 : w6.cell? ⟨X, 7, none⟩ = some (.slice s.A s.l.length s.cap) := HS6.out.cell 7
      have k8 : w6.cell? ⟨X, 8, none⟩ = some (.int .i64 s.y) := HS6.out.cell 8
      obtain ⟨fl, hfl⟩ : ∃ b, fullA s.f s.t s.y ed = b := ⟨_, rfl⟩
      have HFU := hide (fullA_any s ed w6)
      rw [hfl] at HFU HDR
      clear hXX HW6 HB6 x0 x1 x2 x3 x4 x5 x6 x7 x8 hsz hfl
      go_wp2_with fail
      refine HFU.out.mono ?_
      rintro e w7 ⟨rfl, h7⟩
      have HF7 := hide (HF6.out.below h7)
      have HB7 := hide (chain HB62.out h7)
      have HR7 := hide (HR6.out.below h7 (by have := HXA.out; omega))
      have HS7 := hide (HS6.out.below h7 hX)
      have hX7 := HS7.out.lt
      clear HF6 HB62 HR6 HS6 k0 k1 k2 k3 k4 k5 k6 k7 k8 h7
      cases fl
      · have HK := hide (show curK l = 1 by
          rw [curK, HN.out, if_neg (by omega), HC.out, ← HCH.out, HDR.out]; rfl)
        go_wp2_with fail
        refine (HMU.out _).mono ?_
        rintro e w' ⟨rfl, rfl⟩
        go_wp2_with fail
        exact ⟨rfl, HB7.out, .inl ⟨HK.out, rfl⟩⟩
      · have k0 : w7.cell? ⟨X, 0, none⟩ = some (.int .i64 s.f) := HS7.out.cell 0
        have k1 : w7.cell? ⟨X, 1, none⟩ = some (.int .i64 s.t) := HS7.out.cell 1
        have k8 : w7.cell? ⟨X, 8, none⟩ = some (.int .i64 s.y) := HS7.out.cell 8
        have HA1 := hide (HAD.out _ _ _ _ _ _ _ s.f s.y _ HF7.out (by have h1 := HLE.out; rw [List.length_take] at h1; omega))
        go_wp2_with fail
        refine HA1.out.mono ?_
        intro e w8 hp
        obtain ⟨he, ⟨A3, A4, c3, c4, hf8, hx8⟩, hfr8, hg8, hk8⟩ := hp
        subst he
        have hX8 : X < w8.heap.size := by omega
        have HF8 := hide hf8
        have HB8 := hide (HB7.out.trans (below_of (B := w.heap.size) (w := w7) hk8 hg8 (fun b hb => hfr8 b (by have := HB7.out.size; omega) (by omega) (fun e => by have := (HF7.out.o1.lt _ e).1; omega) (fun e => by have := (HF7.out.o2.lt _ e).1; omega))))
        have HR8 := hide (show Blk w8 w.heap.size 127 #[.slice none 0 0, .slice none 0 0] from (hfr8 w.heap.size (by have := HXA.out; omega) (by omega) (fun e => by have := (HF7.out.o1.lt _ e).1; omega) (fun e => by have := (HF7.out.o2.lt _ e).1; omega)).trans HR7.out)
        have HS8 := hide (show Blk w8 X 121 (scC s) from (hfr8 X hX7 (by have := HXA.out; omega) HXA.out.1 HXA.out.2.1).trans HS7.out)
        have HX8 := hide (show blk A3 ≠ some X ∧ blk A4 ≠ some X from ⟨fun e => HXA.out.1 ((hx8 X hX7).1 e), fun e => HXA.out.2.1 ((hx8 X hX7).2 e)⟩)
        have HL8 := hide (addV_len s.f s.y (curF (l.take i)))
        clear hf8 hx8 hfr8 hg8 hk8 k0 k1 k8 HF7 HB7 HR7 HS7 HA1
        have k0 : w8.cell? ⟨X, 0, none⟩ = some (.int .i64 s.f) := HS8.out.cell 0
        have k1 : w8.cell? ⟨X, 1, none⟩ = some (.int .i64 s.t) := HS8.out.cell 1
        have HA2 := hide (HAD.out _ _ _ _ _ _ _ s.t 0 _ HF8.out (by have h1 := HLE.out; have h2 := HL8.out; rw [List.length_take] at h1; omega))
        go_wp2_with fail
        refine HA2.out.mono ?_
        intro e w9 hp
        obtain ⟨he, ⟨A5, A6, c5, c6, hf9, hx9⟩, hfr9, hg9, hk9⟩ := hp
        subst he
        have hX9 : X < w9.heap.size := by omega
        have HF9 := hide hf9
        have HB9 := hide (HB8.out.trans (below_of (B := w.heap.size) (w := w8) hk9 hg9 (fun b hb => hfr9 b (by have := HB8.out.size; omega) (by omega) (fun e => by have := (HF8.out.o1.lt _ e).1; omega) (fun e => by have := (HF8.out.o2.lt _ e).1; omega))))
        have HR9 := hide (show Blk w9 w.heap.size 127 #[.slice none 0 0, .slice none 0 0] from (hfr9 w.heap.size (by have := HXA.out; omega) (by omega) (fun e => by have := (HF8.out.o1.lt _ e).1; omega) (fun e => by have := (HF8.out.o2.lt _ e).1; omega)).trans HR8.out)
        have HS9 := hide (show Blk w9 X 121 (scC s) from (hfr9 X hX8 (by have := HXA.out; omega) HX8.out.1 HX8.out.2).trans HS8.out)
        clear hf9 hx9 hfr9 hg9 hk9 k0 k1 HF8 HB8 HR8 HS8 HA2
        have k1 : w9.cell? ⟨X, 1, none⟩ = some (.int .i64 s.t) := HS9.out.cell 1
        go_wp2_with fail
        go_roundw
        case rel => exact ⟨i + 1, s.t, A5, A6, c5, c6, by omega, by go_num, rfl, by rw [HTK.out]; exact HF9.out, by rw [← HCH.out, HDR.out]; rfl, HB9.out, HR9.out⟩
        case measure => simp [RowKit.intOf]; omega
    · obtain rfl : i = n := by omega
      have htk : l.take i = l := List.take_of_length_le (by rw [HN.out]; exact Nat.le_refl _)
      have HK := hide (show curK l = 0 by
        have := HCH.out
        rw [List.drop_eq_nil_of_le (by rw [HN.out]; exact Nat.le_refl _)] at this
        rw [curK, HN.out, if_neg (by omega), HC.out, ← this]; rfl)
      have hfs := HFS2.out
      rw [htk] at hfs
      have HF := hide hfs
      have hF1 := hfs.f.lt
      have z0 := hfs.f.cell 0
      have z1 := hfs.f.cell 1
      have r0 := HRR.out.cell 0
      have r1 := HRR.out.cell 1
      have f0 := HRR.out.frozen 0
      have f1 := HRR.out.frozen 1
      simp at z0 z1 r0 r1
      have hlt2 : w.heap.size < wr.heap.size := by omega
      clear hfs
      go_wp2_with fail
      exact ret_row rfl rfl rfl ((HRR.out.set_ 0 _).set_ 1 _) Tryz.underlying127 rfl (by kernel_rfl) ⟨(HB.out.setCell (by simp) _).setCell (by simp) _, .inr ⟨HK.out, A1, A2, c1, c2, rfl,
        ((HF.out.o1.far (p := ⟨w.heap.size, 0, none⟩) (fun k hk => by have := HF.out.o1.lt k hk; simp; omega) _).far (p := ⟨w.heap.size, 1, none⟩) (fun k hk => by have := HF.out.o1.lt k hk; simp; omega) _).sv,
        ((HF.out.o2.far (p := ⟨w.heap.size, 0, none⟩) (fun k hk => by have := HF.out.o2.lt k hk; simp; omega) _).far (p := ⟨w.heap.size, 1, none⟩) (fun k hk => by have := HF.out.o2.lt k hk; simp; omega) _).sv⟩⟩
end Go.Proofs.YtmfohnchnbgbaaaGreatDoor

/- What is earned ahead of a day. -/
namespace Go.Proofs.YtmfohnchnbgbaaaGreatDoor
open Go.RowKit

theorem valI_nn {t : Int} : ∀ {a v : List Int} {acc : Int}, (∀ x ∈ v, 0 ≤ x) → 0 ≤ acc → 0 ≤ valI t acc a v
  | [], v, _, _, h => by cases v <;> exact h
  | d :: ds, [], _, _, h => h
  | d :: ds, x :: xs, acc, hv, h => by
    rw [valI]
    split
    · exact valI_nn (fun y hy => hv y (by simp [hy])) (hv x (by simp))
    · exact h
theorem pcL_nn {a v : List Int} (hv : ∀ x ∈ v, 0 ≤ x) {t : Int} : ∀ {r : List Int} {f : Int}, ∀ p ∈ pcL a v t f r, 0 ≤ p.2.2
  | [], f, p, hp => by
    simp [pcL] at hp; subst hp
    exact valI_nn hv (Int.le_refl _)
  | d :: r, f, p, hp => by
    rw [pcL] at hp
    split at hp
    · exact pcL_nn hv p hp
    · rcases List.mem_cons.1 hp with rfl | hp
      · exact valI_nn hv (Int.le_refl _)
      · exact pcL_nn hv p hp
theorem sumG_nn : ∀ (L : List (Int × Int × Int)) (s al : Int), (∀ p ∈ L, p.1 < p.2.1 ∧ 0 ≤ p.2.2) → 0 ≤ s → s ≤ al → al ≤ 4000000000000000000 → 0 ≤ (sumG L s al).1 ∧ (sumG L s al).1 ≤ 4000000000000000000
  | [], s, al, _, h1, h2, h3 => by rw [sumG]; exact ⟨h1, by simp only; omega⟩
  | (p, q, v) :: r, s, al, hp, h1, h2, h3 => by
    have h4 := hp (p, q, v) (by simp)
    simp only at h4
    rw [sumG]
    split
    · exact ⟨Int.le_refl _, by decide⟩
    · rename_i h5
      have h6 : max v (-v) = v := by omega
      rw [h6] at h5 ⊢
      have h7 : v ≤ (4000000000000000000 - al) / (q - p) := by omega
      have h8 : v * (q - p) ≤ 4000000000000000000 - al := (Int.le_ediv_iff_mul_le (by omega)).1 h7
      have h9 : 0 ≤ (q - p) * v := Int.mul_nonneg (by omega) h4.2
      rw [Int.mul_comm] at h8
      exact sumG_nn r _ _ (fun x hx => hp x (by simp [hx])) (by omega) (by omega) (by omega)
theorem sumQ_nn {a v : List Int} {f t : Int} (hv : ∀ x ∈ v, 0 ≤ x) : 0 ≤ (sumQ a v f t).1 ∧ (sumQ a v f t).1 ≤ 4000000000000000000 := by
  rw [sumQ]
  split
  · rename_i h1
    split
    · rename_i h2
      have h3 : 1 ≤ f ∧ f < t ∧ t ≤ 292195 := by simpa [daysB] using h2
      exact sumG_nn _ _ _ (fun p hp => ⟨(pcL_ok h1 h3.2.2 h3.1 h3.2.1 p hp).2.1, pcL_nn hv p hp⟩) (by omega) (by omega) (by omega)
    · exact ⟨Int.le_refl _, by decide⟩
  · exact ⟨Int.le_refl _, by decide⟩
def uptD (d : Int) : Int := min (max d 1) 292195
def uptoQ (a v : List Int) (d : Int) : Int × Int :=
  if uptD d = 1 then (0, 0) else if (sumQ a v 1 (uptD d)).2 = 0 then ((evQ (sumQ a v 1 (uptD d)).1.toNat 1 365 : Nat), 0) else (0, (sumQ a v 1 (uptD d)).2)
def endQ (q : Int × Int) (e : Ending) : Prop := (q.2 = 0 ∧ e = .returned (.int .i64 q.1)) ∨ (q.2 ≠ 0 ∧ q.1 = 0 ∧ e = pan q.2)
theorem ev365 (n : Nat) (h : n ≤ 4000000000000000000) : evE n 1 365 = 0 := by
  have h1 := upN_ge (n * 1 / 365) (n * 1 % 365) 365
  rw [evE, if_pos]
  simp only [evN]
  omega
set_option maxRecDepth 100000 in
set_option maxHeartbeats 4000000 in
theorem upto_any (A A2 : Option Addr) (n n2 cap cap2 : Nat) (a v : List Int) (d : Int) (w : World) (hs : SV w 1 A n cap (a.map encI)) (hs2 : SV w 1 A2 n2 cap2 (v.map encI)) (hn6 : n ≤ 1000000) (hv : ∀ x ∈ v, 0 ≤ x) :
    Calls Tryz.prog 42 #[.agg #[.slice A n cap, .slice A2 n2 cap2], .int .i64 d] w fun e w' => endQ (uptoQ a v d) e ∧ Below w.heap.size w w' := by
  by_cases h1 : d ≤ 1
  · have HK := hide (show uptoQ a v d = (0, 0) by rw [uptoQ, if_pos (by simp only [uptD]; omega)])
    obtain ⟨m, hm⟩ : ∃ m, min (max d 1) 292195 = m := ⟨_, rfl⟩
    obtain rfl : m = 1 := by omega
    have hm2 : max d 1 = 1 := by omega
    clear hs hs2 hv h1
    go_enter Tryz.func42, Tryz.ntmps42
    go_wp2_with fail
    go_ret
    exact ⟨.inl (by rw [HK.out]; exact ⟨rfl, rfl⟩), ((Below.refl _ _).alloc (Nat.le_refl _) _).alloc (by simp) _⟩
  · obtain ⟨t, ht⟩ : ∃ t, min (max d 1) 292195 = t := ⟨_, rfl⟩
    have ht1 : t ≠ 1 := by omega
    have HS := hide hs
    have HS2 := hide hs2
    have HV := hide (sumQ_nn (a := a) (f := 1) (t := t) hv)
    obtain ⟨R, hR⟩ : ∃ R, sumQ a v 1 t = R := ⟨_, rfl⟩
    rw [hR] at HV
    have HR := hide hR
    obtain ⟨s, k⟩ := R
    have HQ := hide (show uptoQ a v d = if k = 0 then (((evQ s.toNat 1 365 : Nat) : Int), 0) else (0, k) by rw [uptoQ, show uptD d = t from ht, if_neg ht1, hR])
    obtain ⟨S, hS⟩ : ∃ S : Nat, s = S := ⟨s.toNat, by have := HV.out; omega⟩
    have hS2 : S ≤ 4000000000000000000 := by have := HV.out; omega
    subst hS
    rw [show ((S : Int)).toNat = S from rfl] at HQ
    have HE0 := hide (ev365 S hS2)
    obtain ⟨W1, hW1⟩ : ∃ W, (w.alloc (.cells #[.slice A n cap, .slice A2 n2 cap2] 127)).alloc (.cells #[.int .i64 1, .int .i64 t] 56) = W := ⟨_, rfl⟩
    have H1 := hide (show Below w.heap.size w W1 by rw [← hW1]; exact ((Below.refl _ _).alloc (Nat.le_refl _) _).alloc (by simp) _)
    have HSU := hide (sum_any A A2 n n2 cap cap2 a v 1 t W1 (hs.below H1.out) (hs2.below H1.out) hn6)
    rw [hR] at HSU
    have HW1 := hide hW1
    clear hs hs2 hv hR hW1
    go_enter Tryz.func42, Tryz.ntmps42
    go_wp2_with fail
    rw [show (w.alloc (.cells #[.slice A n cap, .slice A2 n2 cap2] 127)).alloc (.cells #[.int .i64 1, .int .i64 t] 56) = W1 from HW1.out]
    refine HSU.out.mono ?_
    rintro e w3 ⟨rfl, h3⟩
    have H3 := hide (chain H1.out h3)
    clear h3
    simp only
    by_cases hk : k = 0
    · subst hk
      go_wp2_with fail
      refine (must_ok _).mono ?_
      rintro e w4 ⟨rfl, rfl⟩
      go_wp2_with fail
      refine (even_any S 1 365 (by omega) (by omega) (by omega) (by omega) _).mono ?_
      rintro e w5 ⟨rfl, h5⟩
      have H5 := hide (chain H3.out h5)
      rw [HE0.out]
      clear h5
      go_wp2_with fail
      refine (must_ok _).mono ?_
      rintro e w6 ⟨rfl, rfl⟩
      go_wp2_with fail
      go_ret
      exact ⟨.inl (by rw [HQ.out]; exact ⟨rfl, rfl⟩), H5.out⟩
    · have HM := hide (must_no k hk)
      have HK := hide hk
      clear hk
      go_wp2_with fail
      refine (HM.out _).mono ?_
      rintro e w4 ⟨rfl, rfl⟩
      go_wp2_with fail
      exact ⟨rfl, .inr (by rw [HQ.out, if_neg HK.out]; exact ⟨HK.out, rfl, rfl⟩), H3.out⟩
end Go.Proofs.YtmfohnchnbgbaaaGreatDoor

/- What is earned by when: the error that is told on. -/
namespace Go.Proofs.YtmfohnchnbgbaaaGreatDoor
open Go.RowKit

theorem addV_nn {d v : Int} {s : List Int × List Int} (h : ∀ x ∈ s.2, 0 ≤ x) (hv : 0 ≤ v) : ∀ x ∈ (addV d v s).2, 0 ≤ x := by
  have h1 : ∀ x ∈ (popV d s).2, 0 ≤ x := by
    unfold popV
    split
    · exact fun x hx => h x (List.dropLast_subset _ hx)
    · exact h
  unfold addV pushV
  split
  · intro x hx
    rcases List.mem_append.1 hx with hx | hx
    · exact h1 x hx
    · rw [List.mem_singleton] at hx; omega
  · exact h1
theorem chain_nn : ∀ {l : List Sc} {e : Int}, chainS e l = true → ∀ x ∈ l, 0 ≤ x.y
  | x :: r, e, h, y, hy => by
    rw [chainS, Bool.and_eq_true] at h
    rcases List.mem_cons.1 hy with rfl | hy
    · have := h.1; simp [fullA] at this; omega
    · exact chain_nn h.2 y hy
theorem fold_nn : ∀ (l : List Sc) (s : List Int × List Int), (∀ x ∈ l, 0 ≤ x.y) → (∀ x ∈ s.2, 0 ≤ x) → ∀ x ∈ (l.foldl stF s).2, 0 ≤ x
  | [], s, _, h => h
  | x :: r, s, hl, h => fold_nn r _ (fun y hy => hl y (by simp [hy])) (addV_nn (addV_nn h (hl x (by simp))) (Int.le_refl _))
theorem curF_nn {l : List Sc} (h : curK l = 0) : (∀ x ∈ (curF l).2, 0 ≤ x) ∧ (curF l).1.length ≤ 4000 ∧ l.length ≤ 2000 := by
  rw [curK] at h
  split at h
  · cases h
  split at h
  · rename_i h1 h2
    have := curF_len l
    exact ⟨fold_nn l _ (chain_nn h2) (by simp), by omega, by omega⟩
  · cases h
def UptoQ (l : List Sc) (d : Int) : Int × Int := if curK l = 0 then uptoQ (curF l).1 (curF l).2 d else (0, 1)
theorem told_box (G : Nat) (x k : Int) (older : List PanicEntry) (w : World) (hb : Blk w G 27 #[.int .i64 x]) :
    CallsD Tryz.prog 41 #[.pointer (some ⟨G, 0, none⟩)] (.panicking ({ v := .iface 27 (.int .i64 k), recovered := false } :: older)) w fun e u' w' =>
      e = .returned (.tuple #[]) ∧ u' = .panicking ({ v := .iface 27 (.int .i64 k), recovered := true } :: older) ∧ w' = w.setCell ⟨G, 0, none⟩ (.int .i64 k) := told_no _ x k older w (hb.cell 0) (hb.frozen 0)
set_option maxRecDepth 100000 in
set_option maxHeartbeats 4000000 in
theorem Upto_any (HADD : AddcAny) (A : Option Addr) (cap n : Nat) (l : List Sc) (d : Int) (w : World) (hs : SV w 9 A n cap (l.map encSc)) :
    Calls Tryz.prog 19 #[.slice A n cap, .int .i64 d] w fun e w' => e = .returned (.tuple #[.int .i64 (UptoQ l d).1, .int .i64 (UptoQ l d).2]) ∧ Below w.heap.size w w' := by
  obtain ⟨w1, hw1⟩ : ∃ W, w.alloc (.cells #[.int .i64 0] 27) = W := ⟨_, rfl⟩
  have H1 := hide (show Below w.heap.size w w1 by rw [← hw1]; exact (Below.refl _ _).alloc (Nat.le_refl _) _)
  have HB1 := hide (show Blk w1 w.heap.size 27 #[.int .i64 0] by rw [← hw1]; exact Blk.new _ _ _)
  have hz1 : w.heap.size < w1.heap.size := HB1.out.lt
  have HCU := hide (curve_any HADD A cap n l w1 (hs.below H1.out))
  have HW1 := hide hw1
  clear hw1 hs
  go_enter_defers Tryz.func19, Tryz.ntmps19
  go_upto_region 1 with fail
  rw [show w.alloc (.cells #[.int .i64 0] 27) = w1 from HW1.out]
  go_wp2_with fail
  refine HCU.out.mono ?_
  rintro e w2 ⟨h2, hr⟩
  have HB2 := hide (HB1.out.below h2 hz1)
  have H2 := hide (chain H1.out h2)
  have hz2 := HB2.out.lt
  clear h2
  rcases hr with ⟨hk, rfl⟩ | ⟨hk, A1, A2, c1, c2, rfl, hs1, hs2⟩
  · have HQ := hide (show UptoQ l d = (0, 1) by rw [UptoQ, if_neg (by omega)])
    clear hk
    simp only [pan]
    go_wp2_with fail
    refine leaves_cons (f := 41) (args := #[.pointer (some ⟨w.heap.size, 0, none⟩)]) (by simp) (by simp [go_sem]) ?_
    refine (told_box _ 0 1 [] _ HB2.out).mono ?_
    rintro e u' w'' ⟨rfl, rfl, rfl⟩
    have ob := (HB2.out.set_ 0 (.int .i64 1)).cell 0
    simp at ob
    simp only [settle, List.dropWhile]
    simp only [Leaves, results, Tryz.results19, go_sem]
    simp [ob]
    exact ⟨by rw [HQ.out]; exact ⟨rfl, rfl⟩, H2.out.setCell (by simp) _⟩
  · have hnn := curF_nn hk
    have HQ := hide (show UptoQ l d = uptoQ (curF l).1 (curF l).2 d by rw [UptoQ, if_pos hk])
    have HUP := hide (upto_any A1 A2 _ _ c1 c2 (curF l).1 (curF l).2 d w2 hs1 hs2 (by omega) hnn.1)
    clear hk hnn hs1 hs2
    go_wp2_with fail
    refine HUP.out.mono ?_
    rintro e w3 ⟨he, h3⟩
    have HB3 := hide (HB2.out.below h3 hz2)
    have H3 := hide (chain H2.out h3)
    have hz3 := HB3.out.lt
    have f0 := HB3.out.frozen 0
    have y0 := HB3.out.cell 0
    simp at y0
    clear h3
    rcases he with ⟨hk, rfl⟩ | ⟨hk, hk0, rfl⟩
    · go_wp2_with fail
      refine leaves_cons (f := 41) (args := #[.pointer (some ⟨w.heap.size, 0, none⟩)]) (by simp) (by simp [go_sem]) ?_
      refine (told_ok _ _).mono ?_
      rintro e u' w'' ⟨rfl, rfl, rfl⟩
      have ob := (HB3.out.set_ 0 (.int .i64 0)).cell 0
      simp at ob
      simp only [settle]
      simp only [Leaves, results, Tryz.results19, go_sem]
      simp [ob]
      exact ⟨by rw [HQ.out]; exact ⟨rfl, hk.symm⟩, H3.out.setCell (by simp) _⟩
    · obtain ⟨q, hq⟩ : ∃ q, (uptoQ (curF l).1 (curF l).2 d).2 = q := ⟨_, rfl⟩
      rw [hq]
      simp only [pan]
      go_wp2_with fail
      refine leaves_cons (f := 41) (args := #[.pointer (some ⟨w.heap.size, 0, none⟩)]) (by simp) (by simp [go_sem]) ?_
      refine (told_box _ 0 q [] _ HB3.out).mono ?_
      rintro e u' w'' ⟨rfl, rfl, rfl⟩
      have ob := (HB3.out.set_ 0 (.int .i64 q)).cell 0
      simp at ob
      simp only [settle, List.dropWhile]
      simp only [Leaves, results, Tryz.results19, go_sem]
      simp [ob]
      exact ⟨by rw [HQ.out]; exact ⟨hk0.symm, hq.symm⟩, H3.out.setCell (by simp) _⟩
end Go.Proofs.YtmfohnchnbgbaaaGreatDoor
