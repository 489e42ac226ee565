/- Part 41 of the proof. -/
import Derived.Test.YtmfohnchnbgbaaaGreatKnM19
import Derived.Test.YtmfohnchnbgbaaaGreatKnM24
import Derived.Test.YtmfohnchnbgbaaaGreatKnM32
import Derived.Test.YtmfohnchnbgbaaaGreatKnM34
import Derived.Test.YtmfohnchnbgbaaaGreatKnM40
/- The order of changes, however many there are. -/
namespace Go.Proofs.YtmfohnchnbgbaaaGreat
open Go.RowKit

theorem nanC_any (n : Int) (w : World) : Calls Tryz.prog 176 #[.int .i64 n] w fun e w' => e = .returned (.bool false) ∧ w' = w := by
  go_enter Tryz.func176, Tryz.ntmps176
  go_wp2
  all_goals
    go_ret
    exact ⟨rfl, rfl⟩
def cmpI (x y : Int) : Int := if x < y then -1 else if y < x then 1 else 0
theorem cmp_any (x y : Int) (w : World) : Calls Tryz.prog 120 #[.int .i64 x, .int .i64 y] w fun e w' => e = .returned (.int .i64 (cmpI x y)) ∧ w' = w := by
  have key : ∀ v, (v = cmpI x y) → (x < y ∧ v = -1 ∨ ¬ x < y ∧ y < x ∧ v = 1 ∨ ¬ x < y ∧ ¬ y < x ∧ v = 0) := by
    intro v hv
    unfold cmpI at hv
    split at hv
    · omega
    · split at hv <;> omega
  obtain ⟨v, hv⟩ : ∃ v, cmpI x y = v := ⟨_, rfl⟩
  have hk := key v hv.symm
  rw [hv]
  clear key hv
  rcases hk with ⟨h1, rfl⟩ | ⟨h1, h2, rfl⟩ | ⟨h1, h2, rfl⟩
  all_goals
    go_enter Tryz.func120, Tryz.ntmps120
    go_wp2_with fail
    refine (nanC_any x _).mono ?_
    rintro e w' ⟨rfl, rfl⟩
    go_wp2_with fail
    refine (nanC_any y _).mono ?_
    rintro e w' ⟨rfl, rfl⟩
    go_wp2_with fail
    go_ret
    exact ⟨rfl, rfl⟩
/-- The day of a change at a place; which of two places comes first. -/
def dayAt (cs : List Ch) (k : Nat) : Int := (cs[k]?.map (·.d)).getD 0
def ltD (cs : List Ch) (x y : Nat) : Prop := dayAt cs x < dayAt cs y ∨ (dayAt cs x = dayAt cs y ∧ x < y)
theorem ltD_ord (cs : List Ch) : OrdL (ltD cs) id := ⟨fun x y z h1 h2 => by unfold ltD at *; omega, fun x y h1 h2 => by unfold ltD at *; simp only [id] at h1; omega⟩
theorem sorted_unique {α : Type} {lt : α → α → Prop} (ha : ∀ x y, lt x y → ¬ lt y x) : ∀ {l l' : List α}, l.Perm l' → l.Pairwise lt → l'.Pairwise lt → l = l'
  | [], l', hp, _, _ => by rw [List.nil_perm.1 hp]
  | a :: r, [], hp, _, _ => by have := hp.length_eq; simp at this
  | a :: r, b :: s, hp, h1, h2 => by
    have h1' := List.pairwise_cons.1 h1
    have h2' := List.pairwise_cons.1 h2
    have hab : a = b := by
      have hb : b ∈ a :: r := hp.mem_iff.2 (by simp)
      have ha' : a ∈ b :: s := hp.mem_iff.1 (by simp)
      rcases List.mem_cons.1 hb with h | h
      · exact h.symm
      · rcases List.mem_cons.1 ha' with h3 | h3
        · exact h3
        · exact absurd (h2'.1 a h3) (ha _ _ (h1'.1 b h))
    subst hab
    rw [sorted_unique ha (List.Perm.cons_inv hp) h1'.2 h2'.2]

set_option maxRecDepth 100000 in
set_option maxHeartbeats 2000000 in
theorem ord1_any (h : Hi) (H : Nat) (x y : Nat) (w : World) (hB : Blk w H 65 (hiC h)) (hs : SV w 9 h.A h.cs.length h.cap (h.cs.map encCh)) (hx : x < h.cs.length) (hy : y < h.cs.length) :
    Calls Tryz.prog 150 #[.int .i64 (x : Int), .int .i64 (y : Int), .pointer (some ⟨H, 0, none⟩)] w fun e w' => e = .returned (.int .i64 (cmpI (dayAt h.cs x) (dayAt h.cs y))) ∧ Below w.heap.size w w' := by
  obtain ⟨c, hc⟩ := get_of hx
  obtain ⟨d, hd⟩ := get_of hy
  have e1 : dayAt h.cs x = c.d := by simp [dayAt, hc]
  have e2 : dayAt h.cs y = d.d := by simp [dayAt, hd]
  rw [e1, e2]
  have hle := hs.le
  have hmo := hs.most
  unfold maxLen at hmo
  obtain ⟨b, off, hA, -, -, c1, -⟩ := hs.sl.ch hc
  obtain ⟨b', off', hA', -, -, d1, -⟩ := hs.sl.ch hd
  rw [hA] at hA'
  cases hA'
  have z9 := (hi_cells hB).2.2.2.2.2.2.2.2.2
  rw [hA] at z9
  obtain ⟨n, hn⟩ : ∃ n, h.cs.length = n := ⟨_, rfl⟩
  rw [hn] at z9 hx hy hle
  have hx0 : (0 : Int) ≤ (x : Int) := by omega
  have hx1 : (x : Int) < (n : Int) := by omega
  have hy0 : (0 : Int) ≤ (y : Int) := by omega
  have hy1 : (y : Int) < (n : Int) := by omega
  clear hc hd e1 e2 hs hB hA hn
  go_enter Tryz.func150, Tryz.ntmps150
  go_wp2_with fail
  refine wp_region_class (fun W => Below w.heap.size w W) (by kernel_rfl) (by kernel_rfl) (Below.refl _ _).drew ?_
  repeat (first
    | go_big_quiet_skip
    | (go_big_quiet_want
       first
         | (go_big_quiet_op
            go_big_quiet_on)
         | (refine quiet_call (v := .int .i64 (cmpI c.d d.d)) (f := 120) (args := #[.int .i64 c.d, .int .i64 d.d]) ?_ ?_ ?_
            · intro W hW
              have z9 := kept hW z9
              have c1 := kept hW c1
              have d1 := kept hW d1
              clear hW
              go_simp
              done
            · intro W hW
              exact (cmp_any c.d d.d W).mono fun e w'' h => ⟨h.1, by rw [h.2]; exact hW⟩
            simp only [Act.put, List.setIfInBounds_toArray, List.set_cons_zero, List.set_cons_succ]
            go_big_quiet_on)
         | (refine quiet_yield (v := ?_) ?_ ?_
            rotate_left
            · intro W hW
              have z9 := kept hW z9
              have c1 := kept hW c1
              have d1 := kept hW d1
              clear hW
              go_simp
              try with_reducible rfl
            simp only [Act.put, List.setIfInBounds_toArray, List.set_cons_zero, List.set_cons_succ]
            go_big_quiet_on)))
  refine wpQuiet_nil ?_
  intro W hW
  have HW := hide hW
  clear hW z9 c1 d1
  go_wp2_with fail
  go_ret
  exact ⟨rfl, HW.out⟩

/-- The places of changes, by their days. -/
def leD (cs : List Ch) (x y : Nat) : Bool := decide (dayAt cs x < dayAt cs y ∨ (dayAt cs x = dayAt cs y ∧ x ≤ y))
theorem ord_ex (cs : List Ch) : ∃ O : List Nat, O.Perm (List.range cs.length) ∧ O.Pairwise (ltD cs) := by
  refine ⟨(List.range cs.length).mergeSort (leD cs), List.mergeSort_perm _ _, ?_⟩
  have h := List.pairwise_mergeSort (le := leD cs) (by
    intro a b c h1 h2
    simp only [leD, decide_eq_true_eq] at *
    omega) (by
    intro a b
    simp only [leD, Bool.or_eq_true, decide_eq_true_eq]
    omega) (List.range cs.length)
  have hnd : ((List.range cs.length).mergeSort (leD cs)).Nodup := (List.mergeSort_perm _ _).nodup_iff.2 List.nodup_range
  refine (h.and hnd).imp ?_
  intro a b hab
  simp only [leD, decide_eq_true_eq] at hab
  unfold ltD
  omega
noncomputable def ordL (cs : List Ch) : List Nat := Classical.choose (ord_ex cs)
theorem ordL_perm (cs : List Ch) : (ordL cs).Perm (List.range cs.length) := (Classical.choose_spec (ord_ex cs)).1
theorem ordL_sorted (cs : List Ch) : (ordL cs).Pairwise (ltD cs) := (Classical.choose_spec (ord_ex cs)).2
theorem ordL_uniq {cs : List Ch} {O : List Nat} (h1 : O.Perm (List.range cs.length)) (h2 : O.Pairwise (ltD cs)) : O = ordL cs :=
  sorted_unique (fun x y a b => by unfold ltD at a b; omega) (h1.trans (ordL_perm cs).symm) h2 (ordL_sorted cs)
theorem ordL_len (cs : List Ch) : (ordL cs).length = cs.length := by rw [(ordL_perm cs).length_eq, List.length_range]

theorem cmpZ_day (h : Hi) (H g : Nat) (w0 : World) (hB : Blk w0 H 65 (hiC h)) (hs : SV w0 9 h.A h.cs.length h.cap (h.cs.map encCh)) (hg1 : H ≠ g) (hg2 : ∀ b, blk h.A = some b → b ≠ g) :
    CmpZ (fun k : Nat => (k : Int)) (ltD h.cs) id (fun k => k < h.cs.length) w0 g H (fun x y => cmpI (dayAt h.cs x) (dayAt h.cs y)) := by
  refine ⟨fun W hW x y hx hy => ?_, fun x y _ _ hxy => ?_, fun x y => ?_, ltD_ord h.cs⟩
  · refine ord1_any h H x y W (hB.grown hW (fun e => hg1 (by cases e; rfl))) ?_ hx hy
    refine ⟨?_, hs.len, hs.le, hs.most, hs.nil⟩
    intro i row hr
    obtain ⟨b, off, hA, hb, hc⟩ := hs.sl i row hr
    refine ⟨b, off, hA, Nat.lt_of_lt_of_le hb hW.size, fun j u hu => hW.cell (hc j u hu) (fun e => ?_)⟩
    rw [hA] at hg2
    exact hg2 b rfl (by simpa using e)
  · simp only [id] at hxy
    unfold cmpI ltD
    split
    · rename_i h1; exact ⟨fun _ => .inl h1, fun _ => by omega⟩
    · split
      · exact ⟨fun h => by omega, fun h => by omega⟩
      · exact ⟨fun h => by omega, fun h => by omega⟩
  · unfold cmpI
    split
    · omega
    · split <;> omega

set_option maxRecDepth 100000 in
set_option maxHeartbeats 1000000 in
theorem stableI_any {w0 : World} {B g n cap H : Nat} (h : Hi) (hcm : CmpZ (fun k : Nat => (k : Int)) (ltD h.cs) id (fun k => k < h.cs.length) w0 g H (fun x y => cmpI (dayAt h.cs x) (dayAt h.cs y))) (hn : n = h.cs.length) (hm : n ≤ 1000000) (w : World) (hs : Srt (fun k : Nat => (k : Int)) w0 B g n cap (List.range n) w) :
    Calls Tryz.prog 149 #[.slice (some ⟨g, 0, none⟩) n cap, .func (.func 150) #[] #[.pointer (some ⟨H, 0, none⟩)]] w fun e w' => e = .returned (.tuple #[]) ∧ Srt (fun k : Nat => (k : Int)) w0 B g n cap (ordL h.cs) w' := by
  have hst := stableC_any hcm (List.range n) (by simpa using List.pairwise_lt_range) (fun x hx => by rw [← hn]; exact List.mem_range.1 hx) List.length_range hm w hs
  have HST := hide hst
  have HN := hide hn
  clear hst hs hcm hn
  go_enter Tryz.func149, Tryz.ntmps149
  go_wp2_with fail
  refine HST.out.mono ?_
  rintro e w' ⟨rfl, S, hp, hso, hr⟩
  have HR := hide (show Srt (fun k : Nat => (k : Int)) w0 B g n cap (ordL h.cs) w' by
    rw [HN.out] at hp
    rw [← ordL_uniq hp hso]
    simpa using hr)
  clear hp hso hr
  go_wp2_with fail
  go_end0
  exact ⟨rfl, HR.out⟩

set_option maxRecDepth 100000 in
set_option maxHeartbeats 2000000 in
theorem order_any (h : Hi) (w : World) (hv : SV w 9 h.A h.cs.length h.cap (h.cs.map encCh)) (hn : h.cs.length ≤ 1000000) :
    Calls Tryz.prog 80 #[.agg #[.int .i64 h.id, .int .i64 h.bk, .int .i64 h.tm.f, .int .i64 h.tm.t, .int .i64 h.tm.k, .int .i64 h.tm.v, .int .i64 h.tm.a, .int .i64 h.tm.z, .slice h.tm.A h.tm.l.length h.tm.cap, .slice h.A h.cs.length h.cap]] w (OrdP (ordL h.cs) w) := by
  by_cases hn1 : h.cs.length ≤ 1
  · have := order_small h w hn1 hv.le
    rwa [ordL_uniq (cs := h.cs) (O := List.range h.cs.length) (List.Perm.refl _) (by
      rcases (show h.cs.length = 0 ∨ h.cs.length = 1 by omega) with e | e <;> rw [e] <;> simp [List.range_succ])] at this
  have hmf : ∀ (fn : Fn) (first cap : Array Value) (w : World), (Instr.makeFunc fn first cap).run Tryz.prog w = .ok (.func fn first cap) w := fun _ _ _ _ => rfl
  have hc := hv.le
  have hlow : ∀ b, blk h.A = some b → b < w.heap.size := fun b hb => by
    obtain ⟨c, hc⟩ := get_of (l := h.cs) (k := 0) (by omega)
    obtain ⟨b', off, hA, hlt, -⟩ := hv.sl.ch hc
    rw [hA] at hb
    simp [blk] at hb
    omega
  obtain ⟨n, hnn⟩ : ∃ n, h.cs.length = n := ⟨_, rfl⟩
  have HV := hide hv
  have HLOW := hide hlow
  rw [hnn] at hn1 hc hn
  have HN := hide hnn
  obtain ⟨w1, hw1⟩ : ∃ W, w.alloc (.cells (hiC h) 65) = W := ⟨_, rfl⟩
  have hB : Blk w1 w.heap.size 65 (hiC h) := by rw [← hw1]; exact Blk.new _ _ _
  have hb1 : Below w.heap.size w w1 := by rw [← hw1]; exact (Below.refl _ _).alloc (Nat.le_refl _) _
  have z9 := (hi_cells hB).2.2.2.2.2.2.2.2.2
  have lt0 := hB.lt
  have H1 := hide hb1
  have HB := hide hB
  have HW := hide hw1
  clear hB hb1 hw1 hnn hv hlow
  go_enter Tryz.func80, Tryz.ntmps80
  go_upto_region 1 with fail
  rw [show w.alloc (.cells #[.int .i64 h.id, .int .i64 h.bk, .int .i64 h.tm.f, .int .i64 h.tm.t, .int .i64 h.tm.k, .int .i64 h.tm.v, .int .i64 h.tm.a, .int .i64 h.tm.z, .slice h.tm.A h.tm.l.length h.tm.cap, .slice h.A h.cs.length h.cap] 65) = w1 from HW.out]
  rw [show h.cs.length = n from HN.out] at z9 ⊢
  go_wp2_with fail
  go_loopw [3, 8] (fun t i wr => ∃ (k : Nat) (A' : Option Addr) (cap' : Nat), k ≤ n ∧ i = .int .i64 k ∧ t = .slice A' k cap' ∧ OwnS wr w1.heap.size 3 1 A' k cap' ((List.range k).map encN) ∧ Below w1.heap.size w1 wr) (fun _ i _ => n - (RowKit.intOf i).toNat)
  case atStart => exact ⟨0, none, 0, Nat.zero_le _, rfl, rfl, OwnS.nil_ _ _ _ _, Below.refl _ _⟩
  case round =>
    obtain ⟨k, A', cap', hk, rfl, rfl, ho, hb⟩ := hrel
    have HO := hide ho
    have hsz := hb.size
    clear ho
    by_cases hlt : k < n
    · have hk0 : (0 : Int) ≤ (k : Int) := by omega
      have hk1 : (k : Int) < (n : Int) := by omega
      go_wp2_with (at_builtin
                   refine wpList_app rfl (.tmp 11) (.tmp 13) 39 rfl elInt (B := w1.heap.size) (A2 := some ⟨_, 0, none⟩) (news := [k].map encN) rfl (HO.out.alloc _) rfl rfl ?_ (okN [k]) ?_ ?_ ?_ ?_
                   · exact sl_of_blk (cs := #[.int .i64 k]) (Blk.new _ _ _)
                   · simp only [maxLen]; omega
                   · omega
                   · simp; omega
                   intro A1 c1 wa ho1 hg1 ha1
                   have hba : Below w1.heap.size w1 wa := (hb.alloc hb.size _).grown hg1 (by simp; omega) (fun kk hk => (HO.out.lt kk hk).1)
                   clear hg1 ha1)
      go_roundw
      case rel => exact ⟨k + 1, A1, c1, by omega, by go_num, rfl, by rw [List.range_succ, List.map_append]; exact ho1, hba⟩
      case measure => simp [RowKit.intOf]; omega
    · obtain rfl : n = k := by omega
      obtain ⟨g, hA, hg1, hg2⟩ : ∃ g, A' = some ⟨g, 0, none⟩ ∧ w1.heap.size ≤ g ∧ g < wr.heap.size := by
        rcases HO.out.addr with ⟨-, h0, -⟩ | ⟨g, h1, h2, h3⟩
        · omega
        · exact ⟨g, h1, h2, h3⟩
      subst hA
      have hbw := H1.out.size
      have hcm := cmpZ_day h w.heap.size g wr (HB.out.below hb lt0) (HV.out.below (chain H1.out hb)) (by omega) (fun b hb' => by have := HLOW.out b hb'; omega)
      have hst := stableI_any (B := w1.heap.size) (cap := cap') h hcm HN.out.symm hn wr ⟨HO.out, World.grownBy.refl _ _⟩
      have HST := hide hst
      have HB2 := hide hb
      clear hb hcm hst
      go_wp2_with fail
      refine HST.out.mono ?_
      rintro e w' ⟨rfl, hr⟩
      have HR := hide hr
      clear hr
      go_wp2_with fail
      go_ret
      have hl := ordL_len h.cs
      rw [HN.out] at hl
      refine ⟨some ⟨g, 0, none⟩, cap', by rw [hl]; rfl, by rw [hl]; exact HR.out.own.sv, fun b hb => by simp [blk] at hb; have := HR.out.lt; omega, chain H1.out (HB2.out.grown HR.out.gr HB2.out.size (fun kk hk => by cases hk; exact hg1))⟩
theorem ordd_any (h : Hi) (w : World) (hv : HV w h) (hn : h.cs.length ≤ 2000) : Ordd w h ((ordL h.cs).filterMap fun o => h.cs[o]?) := by
  have hlt : ∀ o ∈ ordL h.cs, o < h.cs.length := fun o ho => List.mem_range.1 ((ordL_perm h.cs).mem_iff.1 ho)
  have key : ∀ l : List Nat, (∀ o ∈ l, o < h.cs.length) → (l.filterMap fun o => h.cs[o]?).length = l.length ∧ ∀ (j o : Nat), l[j]? = some o → ∃ c, h.cs[o]? = some c ∧ (l.filterMap fun o => h.cs[o]?)[j]? = some c := by
    intro l
    induction l with
    | nil => intro _; exact ⟨rfl, fun j o h => by simp at h⟩
    | cons a r ih =>
      intro hl
      obtain ⟨c, hc⟩ := get_of (hl a (by simp))
      obtain ⟨i1, i2⟩ := ih (fun o ho => hl o (by simp [ho]))
      rw [List.filterMap_cons_some hc]
      refine ⟨by simp [i1], fun j o hj => ?_⟩
      cases j with
      | zero => simp at hj; subst hj; exact ⟨c, hc, rfl⟩
      | succ j => exact i2 j o (by simpa using hj)
  obtain ⟨k1, k2⟩ := key (ordL h.cs) hlt
  exact ⟨ordL h.cs, by rw [ordL_len]; exact hn, k2, k1, fun W hW => order_any h W (hv.cs.below hW) (by omega)⟩
end Go.Proofs.YtmfohnchnbgbaaaGreat

/- The slices of a policy stand one behind the other; what each costs. -/
namespace Go.Proofs.YtmfohnchnbgbaaaGreat
open Go.RowKit

theorem yearG_bd (v : Ver) (k vl a z : Int) : ∀ (l : List Cv) (s : Int) (f : Bool), 0 ≤ s → s ≤ 4000000000000000000 → 0 ≤ (yearG v k vl a z l s f).1 ∧ (yearG v k vl a z l s f).1 ≤ 4000000000000000000
  | [], s, true, h1, h2 => by rw [yearG]; exact ⟨h1, h2⟩
  | [], s, false, _, _ => by rw [yearG]; simp
  | c :: r, s, f, h1, h2 => by
    have hb := oneV_bd v k vl a z c
    rw [yearG]
    split
    · split
      · split
        · exact yearG_bd v k vl a z r 0 false (Int.le_refl _) (by omega)
        · exact yearG_bd v k vl a z r _ true (by omega) (by omega)
      · exact yearG_bd v k vl a z r s false h1 h2
    · simp
theorem yearQ_bd (v : Ver) (k vl a z : Int) (l : List Cv) : 0 ≤ (yearQ v k vl a z l).1 ∧ (yearQ v k vl a z l).1 ≤ 4000000000000000000 := yearG_bd v k vl a z l 0 true (Int.le_refl _) (by omega)
/-- One behind the other, from one day up to another, without cost. -/
def Cont : Int → List Sp → Int → Prop
  | f, [], c => c = f
  | f, x :: r, c => x.f = f ∧ x.f < x.t ∧ x.y = 0 ∧ Cont x.t r c
theorem Cont.snoc : ∀ {f : Int} {l : List Sp} {m : Int} {x : Sp}, Cont f l m → x.f = m → x.f < x.t → x.y = 0 → Cont f (l ++ [x]) x.t
  | _, [], _, _, h, h1, h2, h3 => by cases h; exact ⟨h1, h2, h3, rfl⟩
  | _, z :: r, _, _, h, h1, h2, h3 => ⟨h.1, h.2.1, h.2.2.1, Cont.snoc h.2.2.2 h1 h2 h3⟩
theorem Cont.last : ∀ {f : Int} {l : List Sp} {c : Int} {x : Sp}, Cont f (l ++ [x]) c → Cont f l x.f ∧ x.f < x.t ∧ x.y = 0 ∧ c = x.t
  | _, [], _, _, h => ⟨h.1, h.2.1, h.2.2.1, h.2.2.2⟩
  | _, z :: r, _, _, h => by
    obtain ⟨a, b, c, d⟩ := Cont.last (l := r) h.2.2.2
    exact ⟨⟨h.1, h.2.1, h.2.2.1, a⟩, b, c, d⟩
theorem end_cont {f0 d : Int} {now : Sp} {out : List Sp} (h : Cont f0 out now.f) (hd : now.f ≤ d) (hy : now.y = 0) : Cont f0 (endV d now out) d := by
  unfold endV
  by_cases hf : now.f = d
  · rw [if_pos hf, ← hf]; exact h
  · rw [if_neg hf]
    rcases nil_or_snoc out with rfl | ⟨r, l, rfl⟩
    · exact Cont.snoc (x := { now with t := d }) h rfl (show now.f < d by omega) hy
    · simp only [List.getLast?_append, List.getLast?_singleton, Option.some_or, List.dropLast_concat]
      split
      · obtain ⟨a, b, c, e⟩ := Cont.last h
        exact Cont.snoc (x := { l with t := d }) a rfl (show l.f < d by omega) c
      · exact Cont.snoc (x := { now with t := d }) h rfl (show now.f < d by omega) hy
theorem does_f (s : Sp) (c : Ch) : (doesV s c).f = s.f ∧ (doesV s c).y = s.y := by
  unfold doesV
  split
  · exact ⟨rfl, rfl⟩
  · split
    · exact ⟨rfl, rfl⟩
    · split
      · exact ⟨rfl, rfl⟩
      · split <;> exact ⟨rfl, rfl⟩
theorem fold_cont {f0 t : Int} : ∀ (L : List Ch) (s : Sp × List Sp), Cont f0 s.2 s.1.f → s.1.y = 0 → s.1.f < t → L.Pairwise (fun a b => a.d ≤ b.d) → (∀ c ∈ L, s.1.f ≤ c.d ∧ c.d < t) → Cont f0 (L.foldl stepV s).2 (L.foldl stepV s).1.f ∧ (L.foldl stepV s).1.y = 0 ∧ (L.foldl stepV s).1.f < t
  | [], s, h1, h2, h3, _, _ => ⟨h1, h2, h3⟩
  | c :: r, s, h1, h2, h3, hp, hb => by
    have hc := hb c (by simp)
    have hp' := List.pairwise_cons.1 hp
    have e1 : (stepV s c).1.f = c.d := (does_f _ c).1
    have e2 : (stepV s c).1.y = 0 := by rw [show (stepV s c).1.y = s.1.y from (does_f _ c).2]; exact h2
    refine fold_cont r (stepV s c) (by rw [e1]; exact end_cont h1 hc.1 h2) e2 (by rw [e1]; exact hc.2) hp'.2 (fun x hx => ?_)
    rw [e1]
    exact ⟨hp'.1 x hx, (hb x (by simp [hx])).2⟩
theorem cut_cont {x : Tm} {L : List Ch} (hft : x.f < x.t) (hp : L.Pairwise fun a b => a.d ≤ b.d) (hb : ∀ c ∈ L, x.f ≤ c.d ∧ c.d < x.t) : Cont x.f (cutV x L) x.t := by
  obtain ⟨a, b, c⟩ := fold_cont (f0 := x.f) (t := x.t) L (now0 x, []) rfl rfl hft hp hb
  exact end_cont a (Int.le_of_lt c) b
theorem endV_len (d : Int) (now : Sp) (out : List Sp) : (endV d now out).length ≤ out.length + 1 := by
  unfold endV
  split
  · omega
  · split
    · split <;> simp <;> omega
    · simp
theorem fold_len : ∀ (L : List Ch) (s : Sp × List Sp), (L.foldl stepV s).2.length ≤ s.2.length + L.length
  | [], s => by simp
  | c :: r, s => by
    have h1 := fold_len r (stepV s c)
    have h2 : (stepV s c).2.length ≤ s.2.length + 1 := endV_len _ _ _
    rw [List.foldl_cons, List.length_cons]; omega
theorem cut_len (x : Tm) (L : List Ch) : (cutV x L).length ≤ L.length + 1 := by
  have h1 := fold_len L (now0 x, [])
  have h2 := endV_len x.t (stV x L).1 (stV x L).2
  rw [cutV]
  simp only [stV, List.length_nil] at *
  omega
/-- What a slice costs, where nothing is amiss. -/
def CostB (v : Ver) (s : Sp) : Prop := (s.on = false → s.y = 0) ∧ (s.on = true → yearQ v s.rk s.rv s.ra s.rz s.l = (s.y, 0))
theorem val_chain {v : Ver} : ∀ {l : List Sp} {f c : Int}, Cont f l c → 1 ≤ f → c ≤ 292195 → errL v l = 0 → chainS f ((valL v l).map Sp.sc) = true ∧ (∀ s ∈ valL v l, CostB v s) ∧ f ≤ c
  | [], f, c, h, _, _, _ => ⟨rfl, fun s hs => by simp [valL] at hs, by cases h; exact Int.le_refl _⟩
  | x :: r, f, c, h, hf, hc, he => by
    obtain ⟨h1, h2, h3, h4⟩ := h
    rw [errL] at he
    have hx : ycE v x = 0 := by
      rcases Classical.em (ycE v x = 0) with e | e
      · exact e
      · rw [if_neg e] at he; exact he
    rw [if_pos hx] at he
    obtain ⟨k1, k2, k3⟩ := val_chain (l := r) h4 (by omega) hc he
    have hy : (ycOf v x).f = x.f ∧ (ycOf v x).t = x.t ∧ CostB v (ycOf v x) ∧ 0 ≤ (ycOf v x).y ∧ (ycOf v x).y ≤ 4000000000000000000 := by
      unfold ycOf ycE CostB at *
      by_cases ho : x.on = true
      · rw [if_pos ho] at hx ⊢
        refine ⟨rfl, rfl, ⟨fun h => ?_, fun _ => ?_⟩, yearQ_bd v x.rk x.rv x.ra x.rz x.l⟩
        · simp only at h; rw [h] at ho; cases ho
        · exact Prod.ext rfl hx
      · rw [if_neg ho]
        exact ⟨rfl, rfl, ⟨fun _ => h3, fun h => absurd h ho⟩, by omega, by omega⟩
    obtain ⟨y1, y2, y3, y4, y5⟩ := hy
    refine ⟨?_, fun s hs => ?_, by omega⟩
    · rw [valL, List.map_cons, List.map_cons, chainS, Bool.and_eq_true, fullA, decide_eq_true_eq]
      refine ⟨⟨?_, ?_, ?_, ?_, ?_⟩, ?_⟩
      · show f ≤ (ycOf v x).f; omega
      · show (ycOf v x).f < (ycOf v x).t; omega
      · show (ycOf v x).t ≤ 292195; omega
      · exact y4
      · exact y5
      · show chainS (ycOf v x).t _ = true
        rw [y2]; exact k1
    · rw [valL, List.map_cons] at hs
      rcases List.mem_cons.1 hs with rfl | hs
      · exact y3
      · exact k2 s hs
/-- The changes of a history, by their days. -/
noncomputable def chL (h : Hi) : List Ch := (ordL h.cs).filterMap fun o => h.cs[o]?
theorem chL_sorted (h : Hi) : (chL h).Pairwise fun a b => a.d ≤ b.d := by
  rw [chL, List.pairwise_filterMap]
  refine (ordL_sorted h.cs).imp ?_
  intro x y hxy a ha b hb
  have e1 : dayAt h.cs x = a.d := by unfold dayAt; rw [ha]; rfl
  have e2 : dayAt h.cs y = b.d := by unfold dayAt; rw [hb]; rfl
  unfold ltD at hxy
  rw [e1, e2] at hxy
  omega
theorem chL_mem {h : Hi} {c : Ch} (hc : c ∈ chL h) : c ∈ h.cs := by
  obtain ⟨o, -, ho⟩ := List.mem_filterMap.1 hc
  exact List.mem_of_getElem? ho
theorem chL_len (h : Hi) : (chL h).length ≤ h.cs.length := by
  have := List.length_filterMap_le (fun o => h.cs[o]?) (ordL h.cs)
  rw [ordL_len] at this
  exact this
/-- THE SLICES OF A POLICY. -/
theorem slices_ok {h : Hi} {M : List Ver} (he : slE h (chL h) M = 0) : ∃ v, atL M h.tm.f = some v ∧ chainS h.tm.f ((slL h (chL h) M).map Sp.sc) = true ∧ (∀ s ∈ slL h (chL h) M, CostB v s) ∧ (slL h (chL h) M).length ≤ 2001 ∧ 1 ≤ h.tm.f ∧ (h.tm.f < h.tm.t ∧ h.tm.t ≤ 292195) ∧ (slL h (chL h) M).length ≤ h.cs.length + 1 := by
  unfold slE at he
  by_cases hr : rightH h = true
  · rw [if_pos hr] at he
    cases hv : atL M h.tm.f with
    | none => rw [hv] at he; simp at he
    | some v =>
      rw [hv] at he
      simp only at he
      rw [rightH, Bool.and_eq_true, Bool.and_eq_true, decide_eq_true_eq] at hr
      obtain ⟨r1, r2, r3⟩ := hr
      have hft : 1 ≤ h.tm.f ∧ h.tm.f < h.tm.t ∧ h.tm.t ≤ 292195 := by
        have hk : 1 ≤ manyI h.tm.f h.tm.t := by
          unfold termsB at r2
          have hm : manyB h.tm = true := List.all_eq_true.1 r2 (manyB h.tm) (List.mem_cons_of_mem _ List.mem_cons_self)
          unfold manyB at hm
          exact (of_decide_eq_true hm).1
        unfold manyI keT keF at hk
        by_cases hd : daysB h.tm.f h.tm.t = true
        · unfold daysB at hd
          exact of_decide_eq_true hd
        · rw [if_neg hd, if_neg hd] at hk; omega
      have hch : ∀ c ∈ chL h, h.tm.f ≤ c.d ∧ c.d < h.tm.t := fun c hc => by
        have := List.all_eq_true.1 r1 c (chL_mem hc)
        rw [chB, Bool.and_eq_true, inB, Bool.and_eq_true, decide_eq_true_eq] at this
        exact this.2.2
      obtain ⟨a, b, -⟩ := val_chain (v := v) (cut_cont (x := h.tm) hft.2.1 (chL_sorted h) hch) hft.1 hft.2.2 he
      have hl := cut_len h.tm (chL h)
      have hl2 := chL_len h
      refine ⟨v, rfl, ?_, ?_, ?_, hft.1, hft.2, ?_⟩
      · rw [slL, hv]; exact a
      · rw [slL, hv]; exact b
      · rw [slL, hv]; simp only [valL, List.length_map]; omega
      · rw [slL, hv]; simp only [valL, List.length_map]; omega
  · rw [if_neg hr] at he; cases he
end Go.Proofs.YtmfohnchnbgbaaaGreat
