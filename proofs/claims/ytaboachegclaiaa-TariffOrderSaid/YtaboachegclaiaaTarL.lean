/- A version put into a tariff: the program's. -/
import Derived.Test.YtaboachegclaiaaTarK
namespace Go.Proofs.Ytaboachegclaiaa
open Go.RowKit Go.Lib

theorem OwnS.less {w : World} {B B' : Nat} {e : TypeId} {sz n cap : Nat} {A : Option Addr} {rows : List (List Value)} (h : OwnS w B e sz A n cap rows) (hB : B' ≤ B) : OwnS w B' e sz A n cap rows := by
  refine ⟨⟨h.own.1, ?_⟩, h.len, h.ok⟩
  rcases h.own.2 with h1 | ⟨g, c, cur, h1, h2, h3⟩
  · exact .inl h1
  · exact .inr ⟨g, c, cur, h1, by omega, h3⟩

theorem ins_any (B : Nat) (A : Option Addr) (cap i : Nat) (rows : List (List Value)) (x : List Value) (v : Nat) (cs : Array Value) (w : World) (hB : B ≤ w.heap.size) (hown : OwnS w B 26 9 A rows.length cap rows) (hv : Blk w v 26 cs) (hva : blk A ≠ some v) (hx : cs.toList = x) (hxl : x.length = 9) (hx1 : ∀ u ∈ x, u.oneCell' = true) (hn : rows.length ≤ 200) (hi : i ≤ rows.length) :
    Calls Try.prog 32 #[.slice A rows.length cap, .int .i64 i, .slice (some ⟨v, 0, none⟩) 1 1] w (InsP B w rows x i) := by
  by_cases h1 : i = rows.length
  · subst h1; exact ins_end B A cap rows x v cs w hB hown hv hx hxl hx1 hn
  · by_cases h2 : rows.length + 1 ≤ cap
    · exact ins_shift B A cap i rows x v cs w hB hown hv hva hx hxl hx1 hn (by omega) h2
    · exact ins_grow B A cap i rows x v cs w hB hown hv hx hxl hx1 hn (by omega) (by omega)

theorem okV_ (M : List Vw) : RowsOk 9 (M.map encV) := okVs M
/-- Insert, in the words of versions. -/
def InsV (w0 : World) (M : List Vw) (x : Vw) (i : Nat) (w : World) (e : Ending) (w' : World) : Prop :=
  ∃ A' c', e = .returned (.slice A' (M.length + 1) c') ∧ SV w' 9 A' (M.length + 1) c' ((M.take i ++ x :: M.drop i).map encV) ∧ Below w0.heap.size w w'
theorem ins_v (w0 : World) (A : Option Addr) (cap i : Nat) (M : List Vw) (x : Vw) (v : Nat) (w : World) (hB : w0.heap.size ≤ w.heap.size) (hown : OwnS w w0.heap.size 26 9 A M.length cap (M.map encV)) (hv : Blk w v 26 (boxV x)) (hva : blk A ≠ some v) (hn : M.length ≤ 200) (hi : i ≤ M.length) :
    Calls Try.prog 32 #[.slice A M.length cap, .int .i64 i, .slice (some ⟨v, 0, none⟩) 1 1] w (InsV w0 M x i w) := by
  have hl : (M.map encV).length = M.length := List.length_map _
  have h := ins_any w0.heap.size A cap i (M.map encV) (encV x) v (boxV x) w hB (by rw [hl]; exact hown) hv hva rfl rfl ((okVs [x]) (encV x) (by simp)).2 (by rw [hl]; exact hn) (by rw [hl]; exact hi)
  rw [hl] at h
  refine h.mono ?_
  rintro e w' ⟨A', c', rfl, h1, _, h3⟩
  rw [hl] at h1 ⊢
  refine ⟨A', c', rfl, ?_, h3⟩
  rw [List.map_append, List.map_cons, List.map_take, List.map_drop]
  exact h1
def CopyO (w0 w : World) (n : Nat) (rows : List (List Value)) (en : Ending) (w' : World) : Prop :=
  ∃ A' c', en = .returned (.slice A' n c') ∧ OwnS w' w.heap.size 26 9 A' n c' rows ∧ Below w0.heap.size w0 w' ∧ Below w.heap.size w w'
theorem cloneV_b {w0 w : World} {A : Option Addr} {n cap : Nat} {l : List Vw} (hs : SV w0 9 A n cap (l.map encV)) (hb : Below w0.heap.size w0 w) (hm : n ≤ 1000000) : Calls Try.prog 33 #[.slice A n cap] w (CopyO w0 w n (l.map encV)) :=
  (cloneV_any A n cap l w (hs.below hb) hm).mono fun _ _ ⟨A', c', he, ho, h⟩ => ⟨A', c', he, ho, chain hb h, h⟩
def InsRel (w0 : World) (M : List Vw) (x : Vw) (i : Nat) (s t u : Value) (w : World) : Prop :=
  ∃ A' c', s = .slice A' (M.length + 1) c' ∧ t = .int .i64 ((M.length : Int) + 1) ∧ u = .int .i64 0 ∧ SV w 9 A' (M.length + 1) c' ((M.take i ++ x :: M.drop i).map encV) ∧ Below w0.heap.size w0 w

/-! ### The copies made one by one -/
def Apart (A : Option Addr) (y : Vw) : Prop := (y.age ≠ [] → blk A ≠ blk y.aA) ∧ (y.zone ≠ [] → blk A ≠ blk y.zA) ∧ (y.peril ≠ [] → blk A ≠ blk y.pA)
theorem SV.grow_ {w w' : World} {sz n cap : Nat} {A : Option Addr} {rows : List (List Value)} {row : Option Nat} (h : SV w sz A n cap rows) (hg : w.grownBy w' row) (hne : rows ≠ [] → row ≠ blk A) : SV w' sz A n cap rows := by
  refine ⟨fun i r hr => ?_, h.len, h.le, h.most, h.nil⟩
  obtain ⟨b, off, hA, hb, hc⟩ := h.sl i r hr
  have hn := hne (fun e => by rw [e] at hr; simp at hr)
  have hs := hg.size
  refine ⟨b, off, hA, by omega, fun j u hu => ?_⟩
  rw [World.cell?_of_block (w := w) (hg.block b hb (fun e => hn (by rw [← e, hA]; rfl)))]
  exact hc j u hu
theorem SV.in_ {w : World} {sz n cap : Nat} {A : Option Addr} {rows : List (List Value)} (h : SV w sz A n cap rows) (hne : rows ≠ []) : ∃ b, blk A = some b ∧ b < w.heap.size := by
  cases hr : rows with
  | nil => exact absurd hr hne
  | cons a t =>
    obtain ⟨b, off, hA, hb, _⟩ := h.sl 0 a (by rw [hr]; rfl)
    exact ⟨b, by rw [hA]; rfl, hb⟩
theorem VOK.grow_ {w w' : World} {y : Vw} {A : Option Addr} (h : VOK w y) (hg : w.grownBy w' (blk A)) (ha : Apart A y) : VOK w' y :=
  ⟨h.age.grow_ hg (fun hn => ha.1 (fun e => hn (by rw [e]; rfl))), h.zone.grow_ hg (fun hn => ha.2.1 (fun e => hn (by rw [e]; rfl))), h.peril.grow_ hg (fun hn => ha.2.2 (fun e => hn (by rw [e]; rfl)))⟩
theorem Apart.new {w : World} {y : Vw} {A : Option Addr} (h : VOK w y) (hA : blk A = some w.heap.size) : Apart A y := by
  refine ⟨fun hn => ?_, fun hn => ?_, fun hn => ?_⟩
  · obtain ⟨b, h1, h2⟩ := h.age.in_ (fun e => hn (List.map_eq_nil_iff.1 e))
    rw [hA, h1]; intro e; cases e; omega
  · obtain ⟨b, h1, h2⟩ := h.zone.in_ (fun e => hn (List.map_eq_nil_iff.1 e))
    rw [hA, h1]; intro e; cases e; omega
  · obtain ⟨b, h1, h2⟩ := h.peril.in_ (fun e => hn (List.map_eq_nil_iff.1 e))
    rw [hA, h1]; intro e; cases e; omega
/-- k versions have been copied. -/
theorem sl_blkV {w : World} {v : Nat} {y : Vw} (hv : Blk w v 26 (boxV y)) : Sl w w.heap.size 9 (some ⟨v, 0, none⟩) ([y].map encV) := fun k row hr => by
  cases k with
  | succ k => simp at hr
  | zero =>
    simp at hr; subst hr
    exact ⟨v, 0, rfl, hv.lt, fun j u hu => by rw [show 0 + (0 * 9 + j) = j by omega, hv.cell j, show boxV y = (encV y).toArray from rfl, List.getElem?_toArray]; exact hu⟩
def LoopP (wx : World) (X : List Vw) (k : Nat) (out : Value) (wr : World) : Prop :=
  ∃ (Ao : Option Addr) (co : Nat) (Y : List Vw), out = .slice Ao k co ∧ OwnS wr wx.heap.size 26 9 Ao k co (Y.map encV) ∧ Y.length = k ∧ allV Y = (allV X).take k ∧ (∀ y ∈ Y, VOK wr y ∧ Apart Ao y ∧ FreshV wx.heap.size y) ∧ Below wx.heap.size wx wr
theorem LoopP.add {wx wr wb w' : World} {X : List Vw} {k co c' : Nat} {Ao A' : Option Addr} {Y : List Vw} {y z : Vw} (hown : OwnS wr wx.heap.size 26 9 Ao k co (Y.map encV)) (hk : Y.length = k) (hY : allV Y = (allV X).take k) (hv : ∀ y ∈ Y, VOK wr y ∧ Apart Ao y ∧ FreshV wx.heap.size y) (hb : Below wx.heap.size wx wr)
    (hz : X[k]? = some z) (hyz : y.v = z.v) (hy : VOK wb y) (hf : FreshV wr.heap.size y) (hrb : Below wr.heap.size wr wb) (ho : OwnS w' wx.heap.size 26 9 A' (k + 1) c' (Y.map encV ++ [encV y])) (hg : wb.grownBy w' (blk Ao)) (hA : blk A' = blk Ao ∨ blk A' = some wb.heap.size) :
    LoopP wx X (k + 1) (.slice A' (k + 1) c') w' := by
  have hap : Apart Ao y := by
    have h1 : ∀ (q : Option Addr), (∀ kk, blk q = some kk → wr.heap.size ≤ kk) → (∃ b, blk q = some b) → blk Ao ≠ blk q := fun q h1 ⟨b, h2⟩ e => by
      rw [h2] at e
      have := (hown.lt _ e).2
      have := h1 b h2
      omega
    refine ⟨fun hn => h1 _ (fun kk h => hf kk (.inl h)) ?_, fun hn => h1 _ (fun kk h => hf kk (.inr (.inl h))) ?_, fun hn => h1 _ (fun kk h => hf kk (.inr (.inr h))) ?_⟩
    · obtain ⟨b, h, _⟩ := hy.age.in_ (fun e => hn (List.map_eq_nil_iff.1 e)); exact ⟨b, h⟩
    · obtain ⟨b, h, _⟩ := hy.zone.in_ (fun e => hn (List.map_eq_nil_iff.1 e)); exact ⟨b, h⟩
    · obtain ⟨b, h, _⟩ := hy.peril.in_ (fun e => hn (List.map_eq_nil_iff.1 e)); exact ⟨b, h⟩
  have hall : ∀ u ∈ Y ++ [y], VOK wb u ∧ Apart Ao u ∧ FreshV wx.heap.size u := fun u hu => by
    rcases List.mem_append.1 hu with h | h
    · exact ⟨(hv u h).1.below hrb, (hv u h).2⟩
    · simp at h; subst h; exact ⟨hy, hap, fun kk hk => Nat.le_trans hb.size (hf kk hk)⟩
  refine ⟨A', c', Y ++ [y], rfl, by rw [List.map_append]; exact ho, by simp [hk], ?_, fun u hu => ?_, ?_⟩
  · rw [take_of (allV_get hz), ← hY, allV, List.map_append, List.map_cons, List.map_nil, hyz]; rfl
  · obtain ⟨h1, h2, h3⟩ := hall u hu
    refine ⟨h1.grow_ hg h2, ?_, h3⟩
    rcases hA with h | h
    · unfold Apart; rw [h]; exact h2
    · exact Apart.new h1 h
  · exact (hb.trans (hrb.mono hb.size)).grown hg (Nat.le_trans hb.size hrb.size) (fun j e => (hown.lt j e).1)

/-! ### What a version put makes -/
def insV (v : Ver) : List Ver → List Ver
  | [] => [v]
  | a :: r => if v.f < a.f then v :: a :: r else a :: insV v r
def putV (l : List Ver) (v : Ver) : Int × List Ver :=
  if (rightT l && versionB v) = false then (1, []) else if l.any (fun a => decide (a.f = v.f)) then (8, []) else if l.length = 100 then (2, []) else (0, insV v l)
def PutP (w : World) (l : List Ver) (v : Ver) (e : Ending) (w' : World) : Prop :=
  ∃ (A' : Option Addr) (cap' : Nat) (M' : List Vw), e = .returned (.tuple #[.agg #[.slice A' M'.length cap'], .int .i64 (putV l v).1]) ∧ TV w' A' M'.length cap' M' ∧ allV M' = (putV l v).2 ∧ Below w.heap.size w w'

theorem ins_cut {v : Ver} : ∀ {l : List Ver} {i : Nat}, i ≤ l.length → (∀ (j : Nat) (y : Ver), l[j]? = some y → (j < i → y.f < v.f) ∧ (i ≤ j → v.f < y.f)) → insV v l = l.take i ++ v :: l.drop i
  | [], i, hi, _ => by simp at hi; subst hi; rfl
  | a :: r, 0, _, h => by
    have := (h 0 a rfl).2 (Nat.le_refl _)
    rw [insV, if_pos this]; rfl
  | a :: r, i + 1, hi, h => by
    have := (h 0 a rfl).1 (by omega)
    rw [insV, if_neg (by omega), ins_cut (l := r) (i := i) (by simpa using hi) (fun j y hj => by
      have := h (j + 1) y (by simpa using hj)
      exact ⟨fun h1 => this.1 (by omega), fun h1 => this.2 (by omega)⟩)]
    rfl

theorem rises_facts : ∀ {l : List Ver} {last : Int}, risesV last l = true → (∀ (i j : Nat) (x y : Ver), i < j → l[i]? = some x → l[j]? = some y → x.f < y.f) ∧ ∀ y ∈ l, last < y.f ∧ versionB y = true
  | [], _, _ => ⟨fun i j x y _ h => by simp at h, fun y h => by cases h⟩
  | a :: r, last, h => by
    rw [risesV] at h
    split at h
    · cases h
    · rename_i hn
      simp only [not_or, Bool.not_eq_false] at hn
      obtain ⟨f1, f2⟩ := rises_facts h
      refine ⟨fun i j x y hij hi hj => ?_, fun y hy => ?_⟩
      · cases j with
        | zero => omega
        | succ j =>
          rw [List.getElem?_cons_succ] at hj
          cases i with
          | zero => cases hi; exact (f2 y (List.mem_of_getElem? hj)).1
          | succ i => exact f1 i j x y (by omega) (by simpa using hi) hj
      · rcases List.mem_cons.1 hy with h1 | h1
        · subst h1; exact ⟨by omega, hn.2⟩
        · have := (f2 y h1).1; exact ⟨by omega, (f2 y h1).2⟩
theorem version_f {y : Ver} (h : versionB y = true) : 1 ≤ y.f ∧ y.f ≤ 292194 := by
  simp [versionB, numsB] at h
  omega
theorem version_lens {y : Ver} (h : versionB y = true) : y.age.length ≤ 100 ∧ y.zone.length ≤ 100 ∧ y.peril.length = 8 := by
  simp [versionB, lensB] at h
  omega

set_option maxRecDepth 100000 in
set_option maxHeartbeats 4000000 in
theorem put_any (A : Option Addr) (cap : Nat) (M : List Vw) (x : Vw) (w : World) (hs : TV w A M.length cap M) (hv : VOK w x) :
    Calls Try.prog 17 #[.agg #[.slice A M.length cap], .agg #[.int .i64 x.f, .int .i64 x.b0, .int .i64 x.b1, .int .i64 x.b2, .int .i64 x.b3, .slice x.aA x.age.length x.aC, .slice x.zA x.zone.length x.zC, .slice x.pA x.peril.length x.pC, .int .i64 x.mn]] w (PutP w (allV M) x.v) := by
  have HS := hide hs
  have HV := hide hv
  have hmx := hs.sv.le
  have hmy := hs.sv.most
  unfold maxLen at hmy
  clear hs hv
  go_enter Try.func17, Try.ntmps17
  go_wp2_with fail
  obtain ⟨w1, hw1⟩ : ∃ W, (((w.alloc (.cells #[.slice A M.length cap] 29)).alloc (.cells #[.int .i64 x.f, .int .i64 x.b0, .int .i64 x.b1, .int .i64 x.b2, .int .i64 x.b3, .slice x.aA x.age.length x.aC, .slice x.zA x.zone.length x.zC, .slice x.pA x.peril.length x.pC, .int .i64 x.mn] 26)).alloc (.cells #[.slice none 0 0] 29)) = W := ⟨_, rfl⟩
  have hT : Blk w1 w.heap.size 29 #[.slice A M.length cap] := by rw [← hw1]; exact ((Blk.new _ _ _).alloc _).alloc _
  have hX : Blk w1 (w.heap.size + 1) 26 (boxV x) := by rw [← hw1]; exact (Blk.new' (by simp)).alloc _
  have hZ : Blk w1 (w.heap.size + 1 + 1) 29 #[.slice none 0 0] := by rw [← hw1]; exact Blk.new' (by simp)
  have h1 : Below w.heap.size w w1 := by rw [← hw1]; exact (((Below.refl _ _).alloc (Nat.le_refl _) _).alloc (by simp) _).alloc (by simp; omega) _
  rw [hw1]
  clear hw1
  refine (right_any A cap M w1 (HS.out.below h1)).mono ?_
  rintro e w2 ⟨rfl, hb2⟩
  obtain ⟨r, hr⟩ : ∃ b, rightT (allV M) = b := ⟨_, rfl⟩
  rw [hr]
  have HR := hide hr
  clear hr
  have hT2 := hT.below hb2 hT.lt
  have hX2 := hX.below hb2 hX.lt
  have hZ2 := hZ.below hb2 hZ.lt
  have h2 := chain h1 hb2
  clear hT hX hZ h1 hb2
  have t0 := hT2.cell 0
  have z0 := hZ2.cell 0
  have zf := hZ2.frozen 0
  obtain ⟨c0, c1, c2, c3, c4, c5, c6, c7, c8⟩ := blk_cells hX2
  simp at t0 z0
  -- what a refusal leaves
  have fin : ∀ (c : Int) (wr : World), Below w.heap.size w wr → Blk wr (w.heap.size + 1 + 1) 29 #[.slice none 0 0] → putV (allV M) x.v = (c, []) → ∀ (a : Act), a.defers = [] → a.tmps.getD 4 undef = .pointer (some ⟨w.heap.size + 1 + 1, 0, none⟩) → a.tmps.getD 5 undef = .int .i64 c →
      bodyPost Try.prog Try.f17 (PutP w (allV M) x.v) .ret a (wr.setCell ⟨w.heap.size + 1 + 1, 0, none⟩ (.slice none 0 0)) := fun c wr hb hz hp a ha h4 h5 => by
    refine ret_row2 (cs := #[.slice none 0 0]) (g := w.heap.size + 1 + 1) (x := .int .i64 c) rfl ha h4 h5 (hz.set_ 0 (.slice none 0 0)) Try.underlying29 rfl (by kernel_rfl) ?_
    exact ⟨none, 0, [], by rw [hp]; rfl, ⟨sv_nil _ 9, fun v h => by cases h⟩, by rw [hp]; rfl, hb.setCell (p := ⟨w.heap.size + 1 + 1, 0, none⟩) (by simp only; omega) _⟩
  have HF := hide fin
  clear fin
  cases r
  · have HP := hide (show putV (allV M) x.v = (1, []) by rw [putV, HR.out, Bool.false_and, if_pos rfl])
    go_wp2_with fail
    exact HF.out 1 w2 h2 hZ2 HP.out _ rfl rfl rfl
  · go_wp2_with fail
    refine (version_any x w2 (HV.out.below h2)).mono ?_
    rintro e w3 ⟨rfl, hb3⟩
    obtain ⟨r, hr⟩ : ∃ b, versionB x.v = b := ⟨_, rfl⟩
    rw [hr]
    have HR2 := hide hr
    have hT3 := hT2.below hb3 hT2.lt
    have hX3 := hX2.below hb3 hX2.lt
    have hZ3 := hZ2.below hb3 hZ2.lt
    have h3 := chain h2 hb3
    clear hr hT2 hX2 hZ2 h2 hb3 t0 z0 zf c0 c1 c2 c3 c4 c5 c6 c7 c8
    have t0 := hT3.cell 0
    have z0 := hZ3.cell 0
    have zf := hZ3.frozen 0
    obtain ⟨c0, c1, c2, c3, c4, c5, c6, c7, c8⟩ := blk_cells hX3
    simp at t0 z0
    cases r
    · have HP := hide (show putV (allV M) x.v = (1, []) by rw [putV, HR2.out, Bool.and_false, if_pos rfl])
      go_wp2_with fail
      exact HF.out 1 w3 h3 hZ3 HP.out _ rfl rfl rfl
    · go_wp2_with fail
      have hfv : 1 ≤ x.f ∧ x.f ≤ 292194 := version_f HR2.out
      have hrt := HR.out
      rw [rightT, allV_len, Bool.and_eq_true, decide_eq_true_eq] at hrt
      obtain ⟨hl, hri⟩ := hrt
      obtain ⟨hr1, hr2⟩ := rises_facts hri
      have HR1 := hide hr1
      have HRB := hide hr2
      have hff : ∀ y ∈ M, 1 ≤ y.f ∧ y.f ≤ 292194 := fun y hy => version_f (hr2 y.v (List.mem_map.2 ⟨y, hy, rfl⟩)).2
      have HFF := hide hff
      refine (search_any A cap M x.f w3 (HS.out.below h3) hfv (by omega) hff (fun i j a b hij hi hj => hr1 i j a.v b.v hij (allV_get hi) (allV_get hj))).mono ?_
      clear hri hr1 hr2 hff
      rintro e w4 ⟨i, b, rfl, hil, hcut, hb, hb4⟩
      have HCUT := hide hcut
      have HBI := hide hb
      have hT4 := hT3.below hb4 hT3.lt
      have hX4 := hX3.below hb4 hX3.lt
      have hZ4 := hZ3.below hb4 hZ3.lt
      have h4 := chain h3 hb4
      clear hT3 hX3 hZ3 h3 hb4 t0 z0 zf c0 c1 c2 c3 c4 c5 c6 c7 c8 hcut hb
      have t0 := hT4.cell 0
      have z0 := hZ4.cell 0
      have zf := hZ4.frozen 0
      obtain ⟨c0, c1, c2, c3, c4, c5, c6, c7, c8⟩ := blk_cells hX4
      simp at t0 z0
      have HG : Hid ((rightT (allV M) && versionB x.v) = true) := by rw [HR.out, HR2.out]; rfl
      cases b
      · have HANY : Hid ((allV M).any (fun a => decide (a.f = x.v.f)) = false) := by
          show (allV M).any (fun a => decide (a.f = x.v.f)) = false
          rw [List.any_eq_false]
          intro a ha
          rw [decide_eq_true_eq]
          intro hax
          obtain ⟨y, hy, rfl⟩ := List.mem_map.1 ha
          obtain ⟨j, hj⟩ := List.mem_iff_getElem?.1 hy
          obtain ⟨q1, q2⟩ := HCUT.out j y hj
          have hax' : y.f = x.f := hax
          rcases Nat.lt_trichotomy j i with h | h | h
          · have := q1 h; omega
          · subst h; exact absurd (HBI.out.2 ⟨y, hj, hax'⟩) (by simp)
          · have hjl := lt_of_get hj
            obtain ⟨u, hu⟩ := get_of (l := M) (k := i) (by omega)
            have h5 := HR1.out i j u.v y.v h (allV_get hu) (allV_get hj)
            have h6 := (HCUT.out i u hu).2 (Nat.le_refl _)
            simp only [Vw.v] at h5
            omega
        by_cases hl1 : M.length = 100
        · have HP := hide (show putV (allV M) x.v = (2, []) by rw [putV, HG.out, if_neg (by simp), HANY.out, if_neg (by simp), if_pos (by rw [allV_len]; exact hl1)])
          have hl1' : (M.length : Int) = 100 := by omega
          go_wp2_with fail
          exact HF.out 2 w4 h4 hZ4 HP.out _ rfl rfl rfl
        · have hl1' : ¬ ((M.length : Int) = 100) := by omega
          have hl1b : ((M.length : Int) == 100) = false := by simpa using hl1'
          have HX4 := hide hX4
          have hcur : Below w4.heap.size w4 w4 := Below.refl _ _
          have hlt4 : w.heap.size < w4.heap.size := hT4.lt
          have hlt41 : w.heap.size + 1 < w4.heap.size := hX4.lt
          go_upto_region 9 with fail
          go_cut [43, 44, 45] from 37 to 45 (fun s t u wx => InsRel w4 M x i s t u wx)
          case first =>
            go_region_law (first
              | (go_simp
                 go_at_call 33
                 refine (cloneV_b (w0 := w4) (l := M) (HS.out.sv.below h4) ?_ (by omega)).mono ?_
                 · first | exact hcur.drew | exact (hcur.alloc (Nat.le_refl _) _).drew | exact hcur.drew.alloc (Nat.le_refl _) _
                 rintro e w5 ⟨A5, c5, rfl, ho5, hb45, hb5⟩
                 have hX5 := HX4.out.below hb45 HX4.out.lt
                 obtain ⟨c0, c1, c2, c3, c4, c5_, c6, c7, c8⟩ := blk_cells hX5
                 first
                   | have hv := Blk.below (Blk.drew (Blk.new w4 26 (boxV x))) hb5 (by simp)
                   | have hv := Blk.below (Blk.new w4.drew 26 (boxV x)) hb5 (by simp)
                   | skip
                 dsimp only)
              | (go_simp
                 go_at_call 32
                 first
                   | refine (ins_v w4 A5 c5 i M x w4.heap.size w5 hb45.size (ho5.less (by simp)) hv ?_ (by omega) hil).mono ?_
                   | refine (ins_v w4 A5 c5 i M x w5.heap.size (w5.alloc (.cells (boxV x) 26)) (by have := hb45.size; simp; omega) ((ho5.less (by simp)).alloc _) (Blk.new _ _ _) ?_ (by omega) hil).mono ?_
                 · intro he
                   have := ho5.lt _ he
                   simp at this
                   try omega
                 rintro e w6 ⟨A6, c6, rfl, hs6, hb6⟩
                 first
                   | have hb46 : Below w4.heap.size w4 w6 := hb45.trans hb6
                   | have hb46 : Below w4.heap.size w4 w6 := (hb45.alloc hb45.size _).trans hb6
                 dsimp only))
            all_goals
              have HS6 := hide hs6
              have HB46 := hide hb46
              clear hs6 hb46
              go_wp2_with fail
              go_meet
              first
                | exact ⟨A6, c6, rfl, by simp, rfl, HS6.out, HB46.out⟩
                | exact ⟨A6, c6, rfl, by simp, rfl, HS6.out.below ((Below.refl _ _).drew), HB46.out.drew⟩
          case rest =>
            obtain ⟨A6, cc6, rfl, rfl, rfl, hs6, hb6⟩ := hcut
            obtain ⟨X, hX⟩ : ∃ X, M.take i ++ x :: M.drop i = X := ⟨_, rfl⟩
            rw [hX] at hs6
            have hXl : X.length = M.length + 1 := by rw [← hX]; simp; omega
            have hXm : ∀ z ∈ X, VOK w z ∧ (z.age.length ≤ 1000000 ∧ z.zone.length ≤ 1000000 ∧ z.peril.length ≤ 1000000) := fun z hz => by
              have hz2 : z ∈ M ∨ z = x := by
                rw [← hX] at hz
                rcases List.mem_append.1 hz with h | h
                · exact .inl (List.mem_of_mem_take h)
                · rcases List.mem_cons.1 h with h | h
                  · exact .inr h
                  · exact .inl (List.mem_of_mem_drop h)
              have hl2 : versionB z.v = true := by
                rcases hz2 with h | h
                · exact (HRB.out z.v (List.mem_map.2 ⟨z, h, rfl⟩)).2
                · rw [h]; exact HR2.out
              obtain ⟨l1, l2, l3⟩ := version_lens hl2
              simp only [Vw.v] at l1 l2 l3
              refine ⟨?_, by omega, by omega, by omega⟩
              rcases hz2 with h | h
              · exact HS.out.rows z h
              · rw [h]; exact HV.out
            have HX := hide hX
            have HXM := hide hXm
            have HS6 := hide hs6
            have HB6 := hide (chain h4 hb6)
            have hmx6 := hs6.le
            have hmy6 := hs6.most
            unfold maxLen at hmy6
            have hZ6 := hide (hZ4.below hb6 hZ4.lt)
            clear hX hXm hs6 hb6 h4 hT4 hX4 hZ4 t0 z0 zf c0 c1 c2 c3 c4 c5 c6 c7 c8 HX4 hcur HF
            go_wp2_with fail
            go_loopw [8, 45] (fun out q wr => ∃ k : Nat, k ≤ M.length + 1 ∧ q = .int .i64 k ∧ LoopP wc X k out wr) (fun _ q _ => M.length + 1 - (RowKit.intOf q).toNat)
            case atStart => exact ⟨0, Nat.zero_le _, rfl, none, 0, [], rfl, OwnS.nil_ _ _ _ _, rfl, rfl, fun y h => (by cases h), Below.refl _ _⟩
            case round =>
              obtain ⟨k, hk, rfl, Ao, co, Y, rfl, hown, hYl, hY, hYv, hb⟩ := hrel
              have HYV := hide hYv
              have HOWN := hide hown
              have HY := hide hY
              have HYL := hide hYl
              have HB := hide hb
              have hZr := hide (hZ6.out.below hb hZ6.out.lt)
              clear hYv hYl hY
              by_cases hlt : k < M.length + 1
              · obtain ⟨z, hz⟩ := get_of (l := X) (k := k) (by omega)
                obtain ⟨bb, off, rfl, hbl, c0, c1, c2, c3, c4, c5, c6, c7, c8⟩ := (HS6.out.below hb).sl.vw hz
                have HZ := hide hz
                have hk0 : (0 : Int) ≤ (k : Int) := by omega
                have hk1 : (k : Int) < (M.length : Int) + 1 := by omega
                clear hz hb hown
                have hzx := HXM.out z (List.mem_of_getElem? HZ.out)
                have hwr : Below w.heap.size w wr := chain HB6.out HB.out
                go_wp2_with fail
                refine (own_any z _ (hzx.1.below (hwr.alloc hwr.size _)) hzx.2).mono ?_
                rintro e wo ⟨y, rfl, hyv, hyw, hyf, hyb⟩
                have hro : Below wr.heap.size wr wo := chain ((Below.refl _ _).alloc (Nat.le_refl _) _) hyb
                have hyf2 : FreshV wr.heap.size y := fun kk hk => Nat.le_trans (by simp) (hyf kk hk)
                have hcwo : wc.heap.size ≤ wo.heap.size := Nat.le_trans HB.out.size hro.size
                have hown2 := (HOWN.out.below hro).alloc (.cells (boxV y) 26)
                have HYW := hide (hyw.below ((Below.refl _ _).alloc (Nat.le_refl _) (.cells (boxV y) 26)))
                have HRB2 := hide (hro.alloc hro.size (.cells (boxV y) 26))
                have HYF := hide hyf2
                have HYV2 := hide hyv
                clear hyv hyw hyf hyb hro hyf2 c0 c1 c2 c3 c4 c5 c6 c7 c8
                go_wp2_with (at_builtin; refine wpList_app rfl (.tmp 49) (.tmp 52) 27 rfl elVer (B := wc.heap.size) (news := [y].map encV) rfl hown2 rfl rfl (sl_blkV (Blk.new _ _ _)) (okVs [y]) (by unfold maxLen; omega) (by omega) (by simp; omega) ?_; intro A' c' w' ho hg hA)
                have HL := hide (LoopP.add HOWN.out HYL.out HY.out HYV.out HB.out HZ.out HYV2.out HYW.out HYF.out HRB2.out ho hg hA)
                clear ho hg hA hown2
                go_roundw
                case rel => exact ⟨k + 1, by omega, by go_num, HL.out⟩
                case measure => simp [RowKit.intOf]; omega
              · obtain rfl : k = M.length + 1 := by omega
                have hk1 : ¬ (((M.length + 1 : Nat) : Int) < (M.length : Int) + 1) := by omega
                have z0 := hZr.out.cell 0
                have zf := hZr.out.frozen 0
                simp at z0
                go_wp2_with fail
                have hlc : w.heap.size + 1 + 1 < wc.heap.size := hZ6.out.lt
                have hoth : ∀ b, wc.heap.size ≤ b → (wr.setCell ⟨w.heap.size + 1 + 1, 0, none⟩ (.slice Ao (M.length + 1) co)).heap[b]? = wr.heap[b]? := fun b hb => heap_setCell_other _ _ _ _ (show b ≠ (⟨w.heap.size + 1 + 1, 0, none⟩ : Addr).block by simp only; omega)
                refine ret_row2 (cs := #[.slice Ao (M.length + 1) co]) (g := w.heap.size + 1 + 1) (x := .int .i64 0) rfl rfl rfl rfl (hZr.out.set_ 0 (.slice Ao (M.length + 1) co)) Try.underlying29 rfl (by kernel_rfl) ?_
                have hput : putV (allV M) x.v = (0, insV x.v (allV M)) := by
                  rw [putV, HG.out, if_neg (by simp), HANY.out, if_neg (by simp), if_neg (by rw [allV_len]; exact hl1)]
                have hins : allV X = insV x.v (allV M) := by
                  rw [← HX.out, ins_cut (l := allV M) (i := i) (by rw [allV_len]; exact hil) (fun j a hj => by
                    obtain ⟨y, hy, rfl⟩ : ∃ y, M[j]? = some y ∧ y.v = a := by
                      simp only [allV, List.getElem?_map, Option.map_eq_some_iff] at hj
                      exact hj
                    obtain ⟨q1, q2⟩ := HCUT.out j y hy
                    refine ⟨q1, fun h => ?_⟩
                    have h7 := List.any_eq_false.1 HANY.out y.v (List.mem_map.2 ⟨y, List.mem_of_getElem? hy, rfl⟩)
                    rw [decide_eq_true_eq] at h7
                    have h8 := q2 h
                    simp only [Vw.v] at h7 ⊢
                    omega)]
                  simp [allV, List.map_take, List.map_drop]
                refine ⟨Ao, co, Y, by rw [hput, HYL.out], ⟨?_, fun y hy => ?_⟩, ?_, ?_⟩
                · rw [HYL.out]
                  exact HOWN.out.sv.only (fun b hb => hoth b (HOWN.out.lt b hb).1) (by simp)
                · obtain ⟨q1, _, q3⟩ := HYV.out y hy
                  exact q1.only (fun b hb => hoth b (q3 b hb)) (by simp)
                · rw [hput, HY.out, List.take_of_length_le (by rw [allV_len]; omega)]; exact hins
                · exact (chain HB6.out HB.out).setCell (p := ⟨w.heap.size + 1 + 1, 0, none⟩) (by simp only; omega) _
      · have HP := hide (show putV (allV M) x.v = (8, []) by
          rw [putV, HG.out, if_neg (by simp), if_pos]
          obtain ⟨y, hy, h⟩ := HBI.out.1 rfl
          exact List.any_eq_true.2 ⟨y.v, List.mem_map.2 ⟨y, List.mem_of_getElem? hy, rfl⟩, by rw [decide_eq_true_eq]; exact h⟩)
        go_wp2_with fail
        exact HF.out 8 w4 h4 hZ4 HP.out _ rfl rfl rfl
end Go.Proofs.Ytaboachegclaiaa
