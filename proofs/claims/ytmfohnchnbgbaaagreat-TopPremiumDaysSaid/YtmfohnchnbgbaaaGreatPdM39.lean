/- Part 39 of the proof. -/
import Derived.Test.YtmfohnchnbgbaaaGreatPdM24
import Derived.Test.YtmfohnchnbgbaaaGreatPdM30
import Derived.Test.YtmfohnchnbgbaaaGreatPdM38
/- slices.At: a day's slice. -/
namespace Go.Proofs.YtmfohnchnbgbaaaGreat
open Go.RowKit Go.Lib

/-- The slice that holds a day. -/
def slAt (l : List Sc) (d : Int) : Option Sc := l.find? fun s => inB s.f s.t d
theorem slAt_no {l : List Sc} {d : Int} {k : Nat} {s : Sc} (h : slAt (l.take k) d = none) (hs : l[k]? = some s) (hb : inB s.f s.t d = false) : slAt (l.take (k + 1)) d = none := by
  rw [take_of hs, slAt, List.find?_append, show (l.take k).find? (fun s => inB s.f s.t d) = none from h]
  simp [hb]
theorem slAt_hit {l : List Sc} {d : Int} {k : Nat} {s : Sc} (h : slAt (l.take k) d = none) (hs : l[k]? = some s) (hb : inB s.f s.t d = true) : slAt l d = some s := by
  have e : l = l.take k ++ (s :: l.drop (k + 1)) := by rw [← drop_of hs, List.take_append_drop]
  rw [slAt, e, List.find?_append, show (l.take k).find? (fun s => inB s.f s.t d) = none from h]
  simp [hb]
def zeroSc : Array Value := #[.int .i64 0, .int .i64 0, .bool false, .int .i64 0, .int .i64 0, .int .i64 0, .int .i64 0, .slice none 0 0, .int .i64 0]
def SatP (r : Option Sc) (w : World) (e : Ending) (w' : World) : Prop :=
  Below w.heap.size w w' ∧ ((r = none ∧ e = .returned (.tuple #[.agg zeroSc, .bool false])) ∨ ∃ s, r = some s ∧ e = .returned (.tuple #[.agg (scC s), .bool true]))
theorem inT_is {f t d : Int} {b : Bool} (h : inB f t d = b) (w : World) :
    Calls Tryz.prog 52 #[.agg #[.int .i64 f, .int .i64 t], .int .i64 d] w fun e w' => e = .returned (.bool b) ∧ Below w.heap.size w w' := by
  subst h; exact in_any f t d w
theorem sc_frozen {w : World} {g : Nat} {cs : Array Value} (h : Blk w g 87 cs) : w.frozen? ⟨g, 0, none⟩ = false ∧ w.frozen? ⟨g, 1, none⟩ = false ∧ w.frozen? ⟨g, 2, none⟩ = false ∧ w.frozen? ⟨g, 3, none⟩ = false ∧ w.frozen? ⟨g, 4, none⟩ = false ∧ w.frozen? ⟨g, 5, none⟩ = false ∧ w.frozen? ⟨g, 6, none⟩ = false ∧ w.frozen? ⟨g, 7, none⟩ = false ∧ w.frozen? ⟨g, 8, none⟩ = false :=
  ⟨h.frozen 0, h.frozen 1, h.frozen 2, h.frozen 3, h.frozen 4, h.frozen 5, h.frozen 6, h.frozen 7, h.frozen 8⟩
theorem sc_cells {w : World} {g : Nat} {x : Sc} (h : Blk w g 87 (scC x)) : w.cell? ⟨g, 0, none⟩ = some (.int .i64 x.f) ∧ w.cell? ⟨g, 1, none⟩ = some (.int .i64 x.t) ∧ w.cell? ⟨g, 2, none⟩ = some (.bool x.on) ∧ w.cell? ⟨g, 3, none⟩ = some (.int .i64 x.rk) ∧ w.cell? ⟨g, 4, none⟩ = some (.int .i64 x.rv) ∧ w.cell? ⟨g, 5, none⟩ = some (.int .i64 x.ra) ∧ w.cell? ⟨g, 6, none⟩ = some (.int .i64 x.rz) ∧ w.cell? ⟨g, 7, none⟩ = some (.slice x.A x.l.length x.cap) ∧ w.cell? ⟨g, 8, none⟩ = some (.int .i64 x.y) :=
  ⟨h.cell 0, h.cell 1, h.cell 2, h.cell 3, h.cell 4, h.cell 5, h.cell 6, h.cell 7, h.cell 8⟩
theorem sc_zero {w : World} {g : Nat} (h : Blk w g 87 zeroSc) : w.cell? ⟨g, 0, none⟩ = some (.int .i64 0) ∧ w.cell? ⟨g, 1, none⟩ = some (.int .i64 0) ∧ w.cell? ⟨g, 2, none⟩ = some (.bool false) ∧ w.cell? ⟨g, 3, none⟩ = some (.int .i64 0) ∧ w.cell? ⟨g, 4, none⟩ = some (.int .i64 0) ∧ w.cell? ⟨g, 5, none⟩ = some (.int .i64 0) ∧ w.cell? ⟨g, 6, none⟩ = some (.int .i64 0) ∧ w.cell? ⟨g, 7, none⟩ = some (.slice none 0 0) ∧ w.cell? ⟨g, 8, none⟩ = some (.int .i64 0) :=
  ⟨h.cell 0, h.cell 1, h.cell 2, h.cell 3, h.cell 4, h.cell 5, h.cell 6, h.cell 7, h.cell 8⟩

set_option maxRecDepth 100000 in
set_option maxHeartbeats 4000000 in
theorem sat_any (A : Option Addr) (cap n : Nat) (l : List Sc) (d : Int) (w : World) (hs : SV w 9 A n cap (l.map encSc)) :
    Calls Tryz.prog 23 #[.slice A n cap, .int .i64 d] w (SatP (slAt l d) w) := by
  have hn : l.length = n := by have := hs.len; simpa using this
  have hle := hs.le
  have hmo := hs.most
  unfold maxLen at hmo
  have HN := hide hn
  have HS := hide hs
  obtain ⟨w1, hw1⟩ : ∃ W, w.alloc (.cells zeroSc 87) = W := ⟨_, rfl⟩
  have hb1 : Below w.heap.size w w1 := by rw [← hw1]; exact (Below.refl _ _).alloc (Nat.le_refl _) _
  have hr1 : Blk w1 w.heap.size 87 zeroSc := by rw [← hw1]; exact Blk.new _ _ _
  have H1 := hide hb1
  have HR1 := hide hr1
  have HW1 := hide hw1
  have hn64 : (n : Int) ≤ 9223372036854775807 := by omega
  clear hb1 hr1 hw1 hs hn hle hmo
  go_enter Tryz.func23, Tryz.ntmps23
  go_upto_region 1 with fail
  change Code.wp _ _ _ _ (w.alloc (.cells zeroSc 87))
  rw [HW1.out]
  clear HW1
  go_wp2_with fail
  go_loopw [10] (fun q wr => ∃ (i : Nat), i ≤ n ∧ q = .int .i64 i ∧ slAt (l.take i) d = none ∧ Below w.heap.size w wr ∧ Blk wr w.heap.size 87 zeroSc) (fun q _ => n - (RowKit.intOf q).toNat)
  case atStart => exact ⟨0, Nat.zero_le _, rfl, rfl, H1.out, HR1.out⟩
  case round =>
    obtain ⟨i, hi, rfl, hno, hb, hrr⟩ := hrel
    have HNO := hide hno
    have HB := hide hb
    have HRR := hide hrr
    clear hno hb hrr
    by_cases hlt : i < n
    · obtain ⟨s, hs⟩ := get_of (l := l) (k := i) (by rw [HN.out]; exact hlt)
      obtain ⟨g, off, hA, hbl, x0, x1, x2, x3, x4, x5, x6, x7, x8⟩ := (HS.out.below HB.out).sl.sc hs
      subst hA
      have HGT := hide hs
      have hk0 : (0 : Int) ≤ (i : Int) := by omega
      have hk1 : (i : Int) < (n : Int) := by omega
      clear hs
      obtain ⟨w6, hw6⟩ : ∃ W, wr.alloc (.cells (scC s) 87) = W := ⟨_, rfl⟩
      have hb6 : Below wr.heap.size wr w6 := by rw [← hw6]; exact (Below.refl _ _).alloc (Nat.le_refl _) _
      have hS6 : Blk w6 wr.heap.size 87 (scC s) := by rw [← hw6]; exact Blk.new _ _ _
      have HW6 := hide hw6
      have HB62 := hide (chain HB.out hb6)
      have HR6 := hide (HRR.out.below hb6 HRR.out.lt)
      have HS6 := hide hS6
      have hX := hS6.lt
      clear hw6 hb6 hS6
      go_upto_region 4 with fail
      rw [show wr.alloc (.cells #[.int .i64 s.f, .int .i64 s.t, .bool s.on, .int .i64 s.rk, .int .i64 s.rv, .int .i64 s.ra, .int .i64 s.rz, .slice s.A s.l.length s.cap, .int .i64 s.y] 87) = w6 from HW6.out]
      obtain ⟨X, hXX⟩ : ∃ X, wr.heap.size = X := ⟨_, rfl⟩
      have hwX := HRR.out.lt
      rw [hXX] at HS6 hX hwX ⊢
      clear hXX HW6 x0 x1 x2 x3 x4 x5 x6 x7 x8
      obtain ⟨k0, k1, k2, k3, k4, k5, k6, k7, k8⟩ := sc_cells HS6.out
      obtain ⟨b, hbb⟩ : ∃ b, inB s.f s.t d = b := ⟨_, rfl⟩
      have HI := hide (inT_is hbb w6)
      have HBB := hide hbb
      clear hbb
      go_wp2_with fail
      refine HI.out.mono ?_
      rintro e w7 ⟨rfl, h7⟩
      have HB7 := hide (chain HB62.out h7)
      have HR7 := hide (HR6.out.below h7 HR6.out.lt)
      have HS7 := hide (HS6.out.below h7 hX)
      clear HB62 HR6 HS6 k0 k1 k2 k3 k4 k5 k6 k7 k8 h7 HI
      cases b
      · have HNX := hide (slAt_no HNO.out HGT.out HBB.out)
        go_wp2_with fail
        go_roundw
        case rel => exact ⟨i + 1, by omega, by go_num, HNX.out, HB7.out, HR7.out⟩
        case measure => simp [RowKit.intOf]; omega
      · have HH := hide (slAt_hit HNO.out HGT.out HBB.out)
        obtain ⟨k0, k1, k2, k3, k4, k5, k6, k7, k8⟩ := sc_cells HS7.out
        obtain ⟨z0, z1, z2, z3, z4, z5, z6, z7, z8⟩ := sc_zero HR7.out
        obtain ⟨f0, f1, f2, f3, f4, f5, f6, f7, f8⟩ := sc_frozen HR7.out
        go_wp2_with fail
        exact ret_row2 rfl rfl rfl rfl (((((((((HR7.out.set_ 0 _).set_ 1 _).set_ 2 _).set_ 3 _).set_ 4 _).set_ 5 _).set_ 6 _).set_ 7 _).set_ 8 _) Tryz.underlying87 rfl (by kernel_rfl)
          ⟨((((((((HB7.out.setCell (by simp) _).setCell (by simp) _).setCell (by simp) _).setCell (by simp) _).setCell (by simp) _).setCell (by simp) _).setCell (by simp) _).setCell (by simp) _).setCell (by simp) _, .inr ⟨s, HH.out, rfl⟩⟩
    · obtain rfl : i = n := by omega
      have htk : l.take i = l := List.take_of_length_le (by rw [HN.out]; exact Nat.le_refl _)
      have HK := hide (show slAt l d = none by have := HNO.out; rwa [htk] at this)
      obtain ⟨z0, z1, z2, z3, z4, z5, z6, z7, z8⟩ := sc_zero HRR.out
      obtain ⟨f0, f1, f2, f3, f4, f5, f6, f7, f8⟩ := sc_frozen HRR.out
      clear htk
      go_wp2_with fail
      exact ret_row2 rfl rfl rfl rfl (((((((((HRR.out.set_ 0 _).set_ 1 _).set_ 2 _).set_ 3 _).set_ 4 _).set_ 5 _).set_ 6 _).set_ 7 _).set_ 8 _) Tryz.underlying87 rfl (by kernel_rfl)
          ⟨((((((((HB.out.setCell (by simp) _).setCell (by simp) _).setCell (by simp) _).setCell (by simp) _).setCell (by simp) _).setCell (by simp) _).setCell (by simp) _).setCell (by simp) _).setCell (by simp) _, .inl ⟨HK.out, rfl⟩⟩
end Go.Proofs.YtmfohnchnbgbaaaGreat

/- Day by day: the plain law of what days cost. -/
namespace Go.Proofs.YtmfohnchnbgbaaaGreat
open Go.RowKit

theorem slices_cov {h : Hi} {M : List Ver} (h0 : ∀ c ∈ h.tm.l, okCv c) (hc : ∀ c ∈ h.cs, okCh c) : ∀ s ∈ slL h (chL h) M, ∀ c ∈ s.l, okCv c := by
  intro s hs
  unfold slL at hs
  split at hs
  · simp at hs
  · rename_i v hv
    rw [valL] at hs
    obtain ⟨x, hx, rfl⟩ := List.mem_map.1 hs
    have := cut_cov (P := fun l => ∀ c ∈ l, okCv c) (x := h.tm) (L := chL h) h0 (fun c hm => (hc c (chL_mem hm)).2) x hx
    have e : (ycOf v x).l = x.l := by unfold ycOf; split <;> rfl
    rw [e]; exact this
theorem chainS_weak {l : List Sc} {e e' : Int} (h : chainS e l = true) (hle : e' ≤ e) : chainS e' l = true := by
  cases l with
  | nil => rfl
  | cons x r =>
    rw [chainS, Bool.and_eq_true, fullA, decide_eq_true_eq] at h ⊢
    exact ⟨⟨by omega, h.1.2⟩, h.2⟩
theorem in_full {f t d : Int} (h1 : 1 ≤ f) (h2 : f < t) (h3 : t ≤ 292195) : inB f t d = decide (f ≤ d ∧ d < t) := by
  have : daysB f t = true := by rw [daysB, decide_eq_true_eq]; exact ⟨h1, h2, h3⟩
  rw [inB, this, Bool.true_and]
theorem slAt_y : ∀ {l : List Sc} {e d : Int}, chainS e l = true → 1 ≤ e → (slAt l d = none → yAt l d = 0) ∧ ∀ s, slAt l d = some s → s ∈ l ∧ yAt l d = s.y ∧ 0 ≤ s.y ∧ s.y ≤ 4000000000000000000
  | [], _, _, _, _ => ⟨fun _ => rfl, fun s h => by simp [slAt] at h⟩
  | x :: r, e, d, h, he => by
    rw [chainS, Bool.and_eq_true, fullA, decide_eq_true_eq] at h
    obtain ⟨⟨h1, h2, h3, h4, h5⟩, h6⟩ := h
    obtain ⟨k1, k2⟩ := slAt_y (l := r) (d := d) h6 (by omega)
    have hi := in_full (d := d) (show 1 ≤ x.f by omega) h2 h3
    by_cases hd : x.f ≤ d ∧ d < x.t
    · have hs : slAt (x :: r) d = some x := by rw [slAt, List.find?_cons_of_pos]; rw [hi]; exact decide_eq_true hd
      rw [hs, yAt, if_pos hd]
      exact ⟨fun h => by simp at h, fun s h => by
        obtain rfl := Option.some.inj h
        exact ⟨List.mem_cons_self, rfl, h4, h5⟩⟩
    · have hs : slAt (x :: r) d = slAt r d := by rw [slAt, List.find?_cons_of_neg]; · rfl
                                                 rw [hi]; simpa using hd
      rw [hs, yAt, if_neg hd]
      exact ⟨k1, fun s h => ⟨List.mem_cons_of_mem _ (k2 s h).1, (k2 s h).2⟩⟩
/-- WHAT IS EARNED BY A DAY, of what the days cost from the first one on. -/
theorem days_end {l : List Sc} {F T : Int} (hc : chainS F l = true) (hn : l.length ≤ 2000) (h1 : 1 ≤ F) (h2 : F ≤ 292195) (hT : F ≤ T) (hb : sumD (yAt l) F (T - F).toNat ≤ 4000000000000000000) :
    UptoQ l T = (((evQ (sumD (yAt l) F (T - F).toNat).toNat 1 365 : Nat) : Int), 0) := by
  have hk : curK l = 0 := by rw [curK, if_neg (by omega), if_pos (chainS_weak hc h1)]
  have key : sumD (yAt l) 1 ((uptD T).toNat - 1) = sumD (yAt l) F (T - F).toNat := by
    have hz : sumD (yAt l) 1 (F - 1).toNat = 0 := by
      rw [sumD_const (c := 0) (fun i hi => yAt_low hc (by omega))]; simp
    have hs := sumD_add (yAt l) 1 (F - 1).toNat (uptD T - F).toNat
    rw [hz, Int.zero_add, show (1 : Int) + (((F - 1).toNat : Nat) : Int) = F by omega] at hs
    have hu : F ≤ uptD T ∧ uptD T ≤ T := by unfold uptD; omega
    rw [show (uptD T).toNat - 1 = (F - 1).toNat + (uptD T - F).toNat by omega, hs]
    have ht := sumD_add (yAt l) F (uptD T - F).toNat (T - uptD T).toNat
    have hz2 : sumD (yAt l) (F + (((uptD T - F).toNat : Nat) : Int)) (T - uptD T).toNat = 0 := by
      rw [sumD_const (c := 0) (fun i hi => yAt_high hc (by unfold uptD at *; omega))]; simp
    rw [hz2, Int.add_zero, show (uptD T - F).toNat + (T - uptD T).toNat = (T - F).toNat by omega] at ht
    exact ht.symm
  have := upto_days (d := T) hk (by rw [key]; exact hb)
  rw [key] at this
  exact this
/-- What the walk of the days asks of the slices. -/
structure DaysOk (out : List Sc) (v : Ver) (F : Int) : Prop where
  ch : chainS F out = true
  f1 : 1 ≤ F
  f2 : F ≤ 292195
  cost : ∀ s ∈ out, (s.on = false → s.y = 0) ∧ (s.on = true → yearQ v s.rk s.rv s.ra s.rz s.l = (s.y, 0))
  cov : ∀ s ∈ out, ∀ c ∈ s.l, okCv c
  len : out.length ≤ 2000
theorem days_ok {h : Hi} {M : List Ver} {out : List Sc} (he : slE h (chL h) M = 0) (ho : out.map Sc.v = slL h (chL h) M) (hn : h.cs.length ≤ 60) (h0 : ∀ c ∈ h.tm.l, okCv c) (hc : ∀ c ∈ h.cs, okCh c) : ∃ v, atL M h.tm.f = some v ∧ DaysOk out v h.tm.f := by
  obtain ⟨v, hv, h1, h2, -, h4, h5, h6⟩ := slices_ok he
  have hsc := slices_cov (M := M) h0 hc
  rw [← ho] at h1 h2 h6 hsc
  have hl : out.length ≤ 61 := by simp at h6; omega
  refine ⟨v, hv, ?_, h4, by omega, fun s hs => ?_, fun s hs => hsc s.v (List.mem_map_of_mem hs), by omega⟩
  · rw [← h1]
    refine chainS_v ?_ _
    rw [List.map_map, List.map_map]
    exact List.map_congr_left fun x _ => rfl
  · exact h2 s.v (List.mem_map_of_mem hs)
end Go.Proofs.YtmfohnchnbgbaaaGreat

/- Few, and what few histories and tariffs are. -/
namespace Go.Proofs.YtmfohnchnbgbaaaGreat
open Go.RowKit Go.Lib

def Few2 (x : Vw) : Prop := x.age.length ≤ 200 ∧ x.zone.length ≤ 200 ∧ x.peril.length ≤ 200
def FewP (h : Hi) (M : List Vw) (w : World) (e : Ending) (w' : World) : Prop :=
  ∃ b : Bool, e = .returned (.bool b) ∧ (b = true → h.cs.length ≤ 60 ∧ ∀ x ∈ M, Few2 x) ∧ Below w.heap.size w w'
theorem FewP.no {h : Hi} {M : List Vw} {w w' : World} (hb : Below w.heap.size w w') : FewP h M w (.returned (.bool false)) w' := ⟨false, rfl, (fun h => nomatch h), hb⟩

set_option maxRecDepth 100000 in
set_option maxHeartbeats 4000000 in
theorem few_any (h : Hi) (A : Option Addr) (cap : Nat) (M : List Vw) (w : World) (hv : HV w h) (hT : TV w A M.length cap M) :
    Calls Tryz.prog 41 #[.agg #[.int .i64 h.id, .int .i64 h.bk, .int .i64 h.tm.f, .int .i64 h.tm.t, .int .i64 h.tm.k, .int .i64 h.tm.v, .int .i64 h.tm.a, .int .i64 h.tm.z, .slice h.tm.A h.tm.l.length h.tm.cap, .slice h.A h.cs.length h.cap], .agg #[.slice A M.length cap]] w (FewP h M w) := by
  obtain ⟨w1, hw1⟩ : ∃ W, (w.alloc (.cells (hiC h) 65)).alloc (.cells #[.slice A M.length cap] 68) = W := ⟨_, rfl⟩
  have hB : Blk w1 w.heap.size 65 (hiC h) := by rw [← hw1]; exact (Blk.new _ _ _).alloc _
  have hS : Blk w1 (w.heap.size + 1) 68 #[.slice A M.length cap] := by rw [← hw1]; exact Blk.new' (by simp)
  have hb1 : Below w.heap.size w w1 := by rw [← hw1]; exact ((Below.refl _ _).alloc (Nat.le_refl _) _).alloc (by simp) _
  obtain ⟨z0, z1, z2, z3, z4, z5, z6, z7, z8, z9⟩ := hi_cells hB
  have s0 := hS.cell 0
  simp at s0
  have H1 := hide hb1
  have HW := hide hw1
  have HV := hide (hv.below hb1)
  have HT := hide (hT.below hb1)
  have hlec := hv.cs.le
  have hlem := hT.sv.le
  have hmoc := hv.cs.most
  have hmom := hT.sv.most
  unfold maxLen at hmoc hmom
  clear hB hS hb1 hw1 hv hT
  obtain ⟨n, hn⟩ : ∃ n, h.cs.length = n := ⟨_, rfl⟩
  obtain ⟨m, hm⟩ : ∃ m, M.length = m := ⟨_, rfl⟩
  obtain ⟨k, hk⟩ : ∃ k, h.tm.l.length = k := ⟨_, rfl⟩
  have HN := hide hn
  have HM := hide hm
  have HL := hide hk
  rw [hn] at hlec
  rw [hm] at hlem HT
  clear hn hm hk
  go_enter Tryz.func41, Tryz.ntmps41
  go_upto_region 1 with fail
  change Code.wp _ _ _ _ ((w.alloc (.cells (hiC h) 65)).alloc (.cells #[.slice A M.length cap] 68))
  rw [HW.out]
  clear HW
  rw [show h.cs.length = n from HN.out] at z9
  rw [show M.length = m from HM.out] at s0
  rw [show h.tm.l.length = k from HL.out] at z8
  clear hmoc hmom
  by_cases a1 : (60 : Int) < (n : Int)
  · go_wp2_with fail
    go_ret
    exact FewP.no H1.out
  by_cases a2 : (100 : Int) < (m : Int)
  · go_wp2_with fail
    go_ret
    exact FewP.no H1.out
  by_cases a3 : (50 : Int) < (k : Int)
  · go_wp2_with fail
    go_ret
    exact FewP.no H1.out
  go_wp2_with fail
  go_loopw [5] (fun q wr => ∃ i : Nat, i ≤ n ∧ q = .int .i64 i ∧ wr = w1) (fun q _ => n - (RowKit.intOf q).toNat)
  case atStart => exact ⟨0, Nat.zero_le _, rfl, rfl⟩
  case round =>
    obtain ⟨i, hi, rfl, hwe⟩ := hrel
    obtain rfl := hwe.symm
    clear hwe
    by_cases hlt : i < n
    · obtain ⟨c, hc⟩ := get_of (l := h.cs) (k := i) (by rw [HN.out]; exact hlt)
      obtain ⟨b, off, hA, hbl, c0, c1, c2, c3, c4, c5, c6, c7, c8⟩ := HV.out.cs.sl.ch hc
      rw [hA] at z9
      have hk0 : (0 : Int) ≤ (i : Int) := by omega
      have hk1 : (i : Int) < (n : Int) := by omega
      clear hc hA
      by_cases a4 : (50 : Int) < (c.l.length : Int)
      · go_wp2_with fail
        go_ret
        exact FewP.no H1.out
      · go_wp2_with fail
        go_roundw
        case rel => exact ⟨i + 1, by omega, by go_num, trivial⟩
        case measure => simp [RowKit.intOf]; omega
    · obtain rfl : i = n := by omega
      have HI := hide hi
      clear hi hlt
      go_wp2_with fail
      go_loopw [6] (fun q W => ∃ j : Nat, j ≤ m ∧ q = .int .i64 j ∧ (∀ x ∈ M.take j, Few2 x) ∧ Below w1.heap.size w1 W) (fun q _ => m - (RowKit.intOf q).toNat)
      case atStart => exact ⟨0, Nat.zero_le _, rfl, fun x hx => by simp at hx, Below.refl _ _⟩
      case round =>
        obtain ⟨j, hj, rfl, hf, hb⟩ := hrel
        have y0 := kept hb s0
        have HF := hide hf
        have HB := hide (chain H1.out hb)
        have HTW := hide (HT.out.below hb)
        have HBB := hide hb
        clear hf hb z0 z1 z2 z3 z4 z5 z6 z7 z8 z9 s0
        by_cases hlt : j < m
        · obtain ⟨x, hx⟩ := get_of (l := M) (k := j) (by rw [HM.out]; exact hlt)
          obtain ⟨b, off, hA, hbl, x0, x1, x2, x3, x4, x5, x6, x7, x8⟩ := HTW.out.sv.sl.vw hx
          rw [hA] at y0
          have hk0 : (0 : Int) ≤ (j : Int) := by omega
          have hk1 : (j : Int) < (m : Int) := by omega
          have HX := hide hx
          clear hx hA
          obtain ⟨w6, hw6⟩ : ∃ W6, wr.alloc (.cells (boxV x) 83) = W6 := ⟨_, rfl⟩
          have hb6 : Below wr.heap.size wr w6 := by rw [← hw6]; exact (Below.refl _ _).alloc (Nat.le_refl _) _
          have hS6 : Blk w6 wr.heap.size 83 (boxV x) := by rw [← hw6]; exact Blk.new _ _ _
          have HW6 := hide hw6
          have HB6 := hide (chain HB.out hb6)
          have HBB6 := hide (chain HBB.out hb6)
          clear hw6
          go_upto_region 12 with fail
          change Code.wp _ _ _ _ (wr.alloc (.cells (boxV x) 83))
          rw [HW6.out]
          clear x0 x1 x2 x3 x4 x5 x6 x7 x8 HW6 hb6
          obtain ⟨X, hXX⟩ : ∃ X, wr.heap.size = X := ⟨_, rfl⟩
          rw [hXX] at hS6 ⊢
          obtain ⟨x0, x1, x2, x3, x4, x5, x6, x7, x8⟩ := blk_cells hS6
          clear hS6 hXX
          by_cases a5 : (200 : Int) < (x.age.length : Int)
          · go_wp2_with fail
            go_ret
            exact FewP.no HB6.out
          by_cases a6 : (200 : Int) < (x.zone.length : Int)
          · go_wp2_with fail
            go_ret
            exact FewP.no HB6.out
          by_cases a7 : (200 : Int) < (x.peril.length : Int)
          · go_wp2_with fail
            go_ret
            exact FewP.no HB6.out
          have HX2 := hide (show Few2 x from ⟨by omega, by omega, by omega⟩)
          go_wp2_with fail
          go_roundw
          case rel =>
            refine ⟨j + 1, by omega, by go_num, ?_, HBB6.out⟩
            rw [take_of HX.out]
            intro z hz
            rcases List.mem_append.1 hz with h1 | h1
            · exact HF.out z h1
            · rw [List.mem_singleton] at h1; subst h1; exact HX2.out
          case measure => simp [RowKit.intOf]; omega
        · obtain rfl : j = m := by omega
          have HK := hide (show ∀ x ∈ M, Few2 x by have := HF.out; rwa [List.take_of_length_le (by rw [HM.out]; exact Nat.le_refl _)] at this)
          go_wp2_with fail
          go_ret
          exact ⟨true, rfl, fun _ => ⟨by rw [HN.out]; omega, HK.out⟩, HB.out⟩

set_option maxRecDepth 100000 in
set_option maxHeartbeats 4000000 in
theorem pfew_any (h : Hi) (A : Option Addr) (cap : Nat) (M : List Vw) (c : Ch) (w : World) (hv : HV w h) (hT : TV w A M.length cap M) :
    Calls Tryz.prog 17 #[.agg #[.int .i64 h.id, .int .i64 h.bk, .int .i64 h.tm.f, .int .i64 h.tm.t, .int .i64 h.tm.k, .int .i64 h.tm.v, .int .i64 h.tm.a, .int .i64 h.tm.z, .slice h.tm.A h.tm.l.length h.tm.cap, .slice h.A h.cs.length h.cap], .agg #[.slice A M.length cap], .agg (chC c)] w (FewP h M w) := by
  obtain ⟨w1, hw1⟩ : ∃ W, ((w.alloc (.cells (hiC h) 65)).alloc (.cells #[.slice A M.length cap] 68)).alloc (.cells (chC c) 71) = W := ⟨_, rfl⟩
  have hB : Blk w1 w.heap.size 65 (hiC h) := by rw [← hw1]; exact ((Blk.new _ _ _).alloc _).alloc _
  have hS : Blk w1 (w.heap.size + 1) 68 #[.slice A M.length cap] := by rw [← hw1]; exact (Blk.new' (by simp)).alloc _
  have hC : Blk w1 (w.heap.size + 1 + 1) 71 (chC c) := by rw [← hw1]; exact Blk.new' (by simp)
  have hb1 : Below w.heap.size w w1 := by rw [← hw1]; exact (((Below.refl _ _).alloc (Nat.le_refl _) _).alloc (by simp) _).alloc (by simp; omega) _
  obtain ⟨z0, z1, z2, z3, z4, z5, z6, z7, z8, z9⟩ := hi_cells hB
  have s0 := hS.cell 0
  simp at s0
  have lt0 := hB.lt
  have lt1 := hS.lt
  have lt2 := hC.lt
  have H1 := hide hb1
  have HW := hide hw1
  have HC := hide hC
  have HF := hide (few_any h A cap M w1 (hv.below hb1) (hT.below hb1))
  clear hB hS hC hb1 hw1 hv hT
  go_enter Tryz.func17, Tryz.ntmps17
  go_upto_region 1 with fail
  change Code.wp _ _ _ _ (((w.alloc (.cells (hiC h) 65)).alloc (.cells #[.slice A M.length cap] 68)).alloc (.cells (chC c) 71))
  rw [HW.out]
  clear HW
  go_wp2_with fail
  refine HF.out.mono ?_
  rintro e w2 ⟨b, rfl, hq, h2⟩
  have HQ := hide hq
  have H2 := hide (chain H1.out h2)
  have HC2 := hide (HC.out.below h2 lt2)
  clear hq h2 z0 z1 z2 z3 z4 z5 z6 z7 z8 z9 s0 HC
  have c4 : w2.cell? ⟨w.heap.size + 1 + 1, 7, none⟩ = some (.slice c.A c.l.length c.cap) := HC2.out.cell 7
  cases b
  · go_wp2_with fail
    go_ret
    exact FewP.no H2.out
  · go_wp2_with fail
    go_ret
    exact ⟨_, rfl, fun _ => HQ.out trivial, H2.out⟩
end Go.Proofs.YtmfohnchnbgbaaaGreat
