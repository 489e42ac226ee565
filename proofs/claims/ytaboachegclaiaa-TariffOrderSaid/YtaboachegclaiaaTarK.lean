/- slices.Insert of one version. -/
import Derived.Lib.Overlaps
import Derived.Lib.AppendZerosOnto
import Derived.Laws.IdiomCopy
import Derived.Laws.Externs
import Derived.Laws.NewBlocks
import Derived.Shelf.Spec.SlicesInsert
import Derived.Test.YtaboachegclaiaaTarJ
namespace Go.Proofs.Ytaboachegclaiaa
open Go.RowKit Go.Lib

/-- copy, of rows of sz cells. -/
theorem run_copy_rows {P : Program} (w : World) (dT sT ty elem : TypeId) (sz : Nat) (b o dLen dCap : Nat) (a : Addr) (sLen sCap : Nat) (cs : List Value)
    (hu : P.underlying dT = some (.slice elem)) (hs : (P.info? elem).map (·.size) = some sz) (hn : cs.length = Nat.min sLen dLen * sz)
    (hsrc : ∀ j v, cs[j]? = some v → w.cell? (a.add j) = some v) (hc : ∀ j, j < cs.length → (w.cell? ⟨b, o + j, none⟩).isSome = true) (hf : ∀ j, j < cs.length → w.frozen? ⟨b, o + j, none⟩ = false) (h1 : ∀ v ∈ cs, v.oneCell' = true) :
    (Builtin.copy_ #[dT, sT] ty #[.slice (some ⟨b, o, none⟩) dLen dCap, .slice (some a) sLen sCap]).run P w = .ok (goInt (Nat.min sLen dLen)) (w.setCells b o cs) := by
  have hl := run_loadCells_list (P := P) w a cs hsrc
  have hst := run_storeCells_cells (P := P) b o cs 0 w (by simpa using hc) (by simpa using hf) h1
  cases hq : P.info? elem with
  | none => simp [hq] at hs
  | some i =>
    have hi : i.size = sz := by simpa [hq] using hs
    rw [hn] at hl
    simp [Builtin.copy_, run_underlying hu, Builtin.lenOf, Builtin.firstCells, sizeOf, typeInfo, hq, hi, hl, hst]

/-- What a row with one put in reads as. -/
theorem ins_sl {W' : World} {g i : Nat} {rows : List (List Value)} {x : List Value} (hok : RowsOk 9 rows) (hi : i ≤ rows.length) (hg : g < W'.heap.size)
    (hA : ∀ q u, q < i * 9 → rows.flatten[q]? = some u → W'.cell? ⟨g, q, none⟩ = some u) (hB : ∀ j u, x[j]? = some u → W'.cell? ⟨g, i * 9 + j, none⟩ = some u)
    (hC : ∀ q u, (rows.drop i).flatten[q]? = some u → W'.cell? ⟨g, (i + 1) * 9 + q, none⟩ = some u) : Sl W' W'.heap.size 9 (some ⟨g, 0, none⟩) (rows.take i ++ x :: rows.drop i) := by
  intro k row hr
  refine ⟨g, 0, rfl, hg, fun j u hu => ?_⟩
  have htl : (rows.take i).length = i := by rw [List.length_take]; omega
  rw [Nat.zero_add]
  rcases Nat.lt_or_ge k i with h | h
  · rw [List.getElem?_append_left (by omega), List.getElem?_take, if_pos h] at hr
    have hj := lt_of_get hu
    rw [(hok row (List.mem_of_getElem? hr)).1] at hj
    have hmul : (k + 1) * 9 ≤ i * 9 := Nat.mul_le_mul_right _ (by omega)
    exact hA _ u (by omega) (flat_at hok k row j u hr hu)
  · rw [List.getElem?_append_right (by omega), htl] at hr
    rcases Nat.lt_or_ge i k with h2 | h2
    · obtain ⟨q, hq⟩ : ∃ q, k - i = q + 1 := ⟨k - i - 1, by omega⟩
      rw [hq, List.getElem?_cons_succ] at hr
      have hkq : k = i + 1 + q := by omega
      have := hC (q * 9 + j) u (flat_at (rows := rows.drop i) (fun r h => hok r (List.mem_of_mem_drop h)) q row j u hr hu)
      rw [← this]
      congr 2
      rw [hkq, Nat.add_mul]; omega
    · obtain rfl : k = i := by omega
      rw [Nat.sub_self] at hr
      cases hr
      exact hB j u hu

theorem below_setCells {B : Nat} {a : World} {g : Nat} (hg : B ≤ g) : ∀ (vs : List Value) (o : Nat) (w : World), Below B a w → Below B a (w.setCells g o vs)
  | [], _, _, h => h
  | _ :: r, o, _, h => below_setCells hg r (o + 1) _ (h.setCell (p := ⟨g, o, none⟩) hg _)
theorem size_setCells_ (g : Nat) : ∀ (vs : List Value) (o : Nat) (w : World), (w.setCells g o vs).heap.size = w.heap.size
  | [], _, _ => rfl
  | v :: r, o, w => by rw [World.setCells, size_setCells_ g r]; simp
/-- What is read behind both stores. -/
theorem ins_read {w : World} {g i n : Nat} {d x : List Value} (hall : ∀ q, q < (n + 1) * 9 → (w.cell? ⟨g, q, none⟩).isSome = true) (hdl : d.length = (n - i) * 9) (hi : i < n) (hxl : x.length = 9) :
    (∀ q, q < i * 9 → ((w.setCells g ((i + 1) * 9) d).setCells g (i * 9) x).cell? ⟨g, q, none⟩ = w.cell? ⟨g, q, none⟩) ∧
    (∀ j u, x[j]? = some u → ((w.setCells g ((i + 1) * 9) d).setCells g (i * 9) x).cell? ⟨g, i * 9 + j, none⟩ = some u) ∧
    (∀ q u, d[q]? = some u → ((w.setCells g ((i + 1) * 9) d).setCells g (i * 9) x).cell? ⟨g, (i + 1) * 9 + q, none⟩ = some u) := by
  have h9 : (i + 1) * 9 + (n - i) * 9 = (n + 1) * 9 := by rw [← Nat.add_mul]; congr 1; omega
  refine ⟨fun q hq => ?_, fun j u hj => ?_, fun q u hq => ?_⟩
  · rw [World.cell?_setCells_out g _ _ _ _ (fun _ _ => .inl hq), World.cell?_setCells_out g _ _ _ _ (fun _ _ => .inl (by simp only; omega))]
  · have hjl := lt_of_get hj
    obtain ⟨hk, he⟩ := List.getElem?_eq_some_iff.1 hj
    rw [← he]
    exact World.cell?_setCells_in g x (i * 9) _ (fun k hk => isSome_setCells g d ((i + 1) * 9) w (fun j hj => hall _ (by omega)) _ (hall _ (by omega))) j hk
  · have hql := lt_of_get hq
    obtain ⟨hk, he⟩ := List.getElem?_eq_some_iff.1 hq
    rw [World.cell?_setCells_out g _ _ _ _ (fun _ _ => .inr (by simp only; omega)), ← he]
    exact World.cell?_setCells_in g d ((i + 1) * 9) w (fun j hj => hall _ (by omega)) q hk
/-- .. with the stores the other way round. -/
theorem ins_read2 {w : World} {g i n : Nat} {d x : List Value} (hall : ∀ q, q < (n + 1) * 9 → (w.cell? ⟨g, q, none⟩).isSome = true) (hdl : d.length = (n - i) * 9) (hi : i < n) (hxl : x.length = 9) :
    (∀ q, q < i * 9 → ((w.setCells g (i * 9) x).setCells g ((i + 1) * 9) d).cell? ⟨g, q, none⟩ = w.cell? ⟨g, q, none⟩) ∧
    (∀ j u, x[j]? = some u → ((w.setCells g (i * 9) x).setCells g ((i + 1) * 9) d).cell? ⟨g, i * 9 + j, none⟩ = some u) ∧
    (∀ q u, d[q]? = some u → ((w.setCells g (i * 9) x).setCells g ((i + 1) * 9) d).cell? ⟨g, (i + 1) * 9 + q, none⟩ = some u) := by
  have h9 : (i + 1) * 9 + (n - i) * 9 = (n + 1) * 9 := by rw [← Nat.add_mul]; congr 1; omega
  refine ⟨fun q hq => ?_, fun j u hj => ?_, fun q u hq => ?_⟩
  · rw [World.cell?_setCells_out g _ _ _ _ (fun _ _ => .inl (by simp only; omega)), World.cell?_setCells_out g _ _ _ _ (fun _ _ => .inl hq)]
  · have hjl := lt_of_get hj
    obtain ⟨hk, he⟩ := List.getElem?_eq_some_iff.1 hj
    rw [World.cell?_setCells_out g _ _ _ _ (fun _ _ => .inl (by simp only; omega)), ← he]
    exact World.cell?_setCells_in g x (i * 9) w (fun k hk => hall _ (by omega)) j hk
  · have hql := lt_of_get hq
    obtain ⟨hk, he⟩ := List.getElem?_eq_some_iff.1 hq
    rw [← he]
    exact World.cell?_setCells_in g d ((i + 1) * 9) _ (fun k hk => isSome_setCells g x (i * 9) w (fun j hj => hall _ (by omega)) _ (hall _ (by omega))) q hk

def InsP (B : Nat) (w : World) (rows : List (List Value)) (x : List Value) (i : Nat) (e : Ending) (w' : World) : Prop :=
  ∃ A' c', e = .returned (.slice A' (rows.length + 1) c') ∧ SV w' 9 A' (rows.length + 1) c' (rows.take i ++ x :: rows.drop i) ∧ (∀ kk, blk A' = some kk → B ≤ kk) ∧ Below B w w'

set_option maxRecDepth 100000 in
set_option maxHeartbeats 4000000 in
theorem ins_end (B : Nat) (A : Option Addr) (cap : Nat) (rows : List (List Value)) (x : List Value) (v : Nat) (cs : Array Value) (w : World) (hB : B ≤ w.heap.size) (hown : OwnS w B 26 9 A rows.length cap rows) (hv : Blk w v 26 cs) (hx : cs.toList = x) (hxl : x.length = 9) (hx1 : ∀ u ∈ x, u.oneCell' = true) (hn : rows.length ≤ 200) :
    Calls Try.prog 32 #[.slice A rows.length cap, .int .i64 rows.length, .slice (some ⟨v, 0, none⟩) 1 1] w (InsP B w rows x rows.length) := by
  have hmx := hown.cap_le.1
  have hmy := hown.cap_le.2
  unfold maxLen at hmy
  have hsl : Sl w w.heap.size 9 (some ⟨v, 0, none⟩) [x] := fun k row hr => by
    cases k with
    | succ k => simp at hr
    | zero =>
      simp at hr; subst hr
      exact ⟨v, 0, rfl, hv.lt, fun j u hu => by rw [show 0 + (0 * 9 + j) = j by omega, hv.cell j, ← hu, ← hx, Array.getElem?_toList]⟩
  have hok : RowsOk 9 [x] := fun r hr => by simp at hr; subst hr; exact ⟨hxl, hx1⟩
  have HO := hide hown
  have HSL := hide hsl
  have HOK := hide hok
  clear hown hv hsl hok
  go_enter Try.func32, Try.ntmps32
  have fin : ∀ A' c' w', OwnS w' B 26 9 A' (rows.length + 1) c' (rows ++ [x]) → w.grownBy w' (blk A) → InsP B w rows x rows.length (.returned (.slice A' (rows.length + 1) c')) w' := fun A' c' w' h1 h2 =>
    ⟨A', c', rfl, by rw [List.take_length, List.drop_length]; exact h1.sv, fun kk hk => (h1.lt kk hk).1, (Below.refl B w).grown h2 hB (fun k e => (HO.out.lt k e).1)⟩
  have HF := hide fin
  clear fin
  rcases HO.out.addr with ⟨rfl, h0, rfl⟩ | ⟨g, rfl, hg, hgl⟩
  · rw [h0] at HO HF ⊢
    go_wp2_with (at_builtin; refine wpList_app rfl _ _ 27 rfl elVer rfl HO.out rfl rfl HSL.out HOK.out (by unfold maxLen; omega) (by omega) hB ?_; intro A' c' w' h1 h2 h3)
    have H1 := hide h1
    have H2 := hide h2
    clear h1 h2 h3
    go_ret
    have := HF.out _ _ _ H1.out H2.out
    exact this
  · go_wp2_with (at_builtin; refine wpList_app rfl _ _ 27 rfl elVer rfl HO.out rfl rfl HSL.out HOK.out (by unfold maxLen; omega) (by omega) hB ?_; intro A' c' w' h1 h2 h3)
    all_goals
      have H1 := hide h1
      have H2 := hide h2
      clear h1 h2 h3
      go_ret
      exact HF.out _ _ _ H1.out H2.out

theorem isSome_cell {w : World} {g : Nat} {t : TypeId} {cs : Array Value} (h : Blk w g t cs) {j : Nat} (hj : j < cs.size) : (w.cell? ⟨g, j, none⟩).isSome = true := by rw [h.cell j, Array.getElem?_eq_getElem hj]; rfl
theorem run_sizeOf_ver (w : World) : (sizeOf 26).run Try.prog w = .ok 9 w := by
  obtain ⟨i, z, hi, _, hs, _⟩ := elVer.hi
  simp [sizeOf, typeInfo, hi, hs]
theorem info_size_ver : (Try.prog.info? 26).map (·.size) = some 9 := by
  obtain ⟨i, z, hi, _, hs, _⟩ := elVer.hi
  simp [hi, hs]
theorem run_overl {w : World} {v g o la ca lb cb : Nat} {cs cs2 : Array Value} {t1 t2 : TypeId} (hv : Blk w v t1 cs) (hg : Blk w g t2 cs2) (h0 : cs2.size ≠ 0) (hne : v ≠ g) :
    (callFunc 40 #[.slice (some ⟨v, 0, none⟩) la ca, .slice (some ⟨g, o, none⟩) lb cb]).run Try.prog w = .ok (.value (.bool false)) w := by
  rw [run_callFunc_extern Try.func40 (by kernel_rfl) (by kernel_rfl) (by kernel_rfl) (e := Extern.SlicesOverlaps.overlaps #[27, 27] #[4]) (by kernel_rfl),
    Lib.run_overlaps_apart w 27 4 26 Try.underlying27 9 run_sizeOf_ver ⟨v, 0, none⟩ ⟨g, o, none⟩ la ca lb cb hne t1 t2 cs.size cs2.size (by simp [World.shape?, show w.heap[v]? = _ from hv]) (by simp [World.shape?, show w.heap[g]? = _ from hg]) h0 (hv.frozen 0) (hv.frozen cs.size)]
  rfl

set_option maxRecDepth 100000 in
set_option maxHeartbeats 4000000 in
/-- There is room: in place. -/
theorem ins_shift (B : Nat) (A : Option Addr) (cap i : Nat) (rows : List (List Value)) (x : List Value) (v : Nat) (cs : Array Value) (w : World) (_hB : B ≤ w.heap.size) (hown : OwnS w B 26 9 A rows.length cap rows) (hv : Blk w v 26 cs) (hva : blk A ≠ some v) (hx : cs.toList = x) (hxl : x.length = 9) (hx1 : ∀ u ∈ x, u.oneCell' = true) (hn : rows.length ≤ 200) (hi : i < rows.length) (hroom : rows.length + 1 ≤ cap) :
    Calls Try.prog 32 #[.slice A rows.length cap, .int .i64 i, .slice (some ⟨v, 0, none⟩) 1 1] w (InsP B w rows x i) := by
  have hmx := hown.cap_le.1
  have hmy := hown.cap_le.2
  unfold maxLen at hmy
  obtain ⟨g, c, cur, hA, hgB, hgb, _, _, hsz, htk⟩ : ∃ g c cur, A = some ⟨g, 0, none⟩ ∧ B ≤ g ∧ Blk w g 26 cur ∧ c = cap ∧ True ∧ cur.size = cap * 9 ∧ cur.toList.take (rows.length * 9) = rows.flatten := by
    rcases hown.own.2 with ⟨h1, h2⟩ | ⟨g, c, cur, hv, h1, h2, h3, h4, h5, h6⟩
    · omega
    · cases hv
      exact ⟨g, _, cur, rfl, h1, h2, rfl, trivial, h5, h6⟩
  subst hA
  have hrl := flat_len hown.ok
  have hcell : ∀ q u, rows.flatten[q]? = some u → w.cell? ⟨g, q, none⟩ = some u := fun q u hq => by
    have hql := lt_of_get hq
    rw [← htk, List.getElem?_take, if_pos (by omega), Array.getElem?_toList] at hq
    rw [hgb.cell q]; exact hq
  have hall : ∀ q, q < cap * 9 → (w.cell? ⟨g, q, none⟩).isSome = true := fun q hq => isSome_cell hgb (by omega)
  have hvg : v ≠ g := fun e => hva (by rw [e]; rfl)
  have hov : ∀ lb cb, (callFunc 40 #[.slice (some ⟨v, 0, none⟩) 1 1, .slice (some ⟨g, (i + 1) * 9, none⟩) lb cb]).run Try.prog w = .ok (.value (.bool false)) w := fun lb cb => run_overl hv hgb (by omega) hvg
  have hokd : RowsOk 9 (rows.drop i) := fun r h => hown.ok r (List.mem_of_mem_drop h)
  have hdl : (rows.drop i).flatten.length = (rows.length - i) * 9 := by rw [flat_len hokd, List.length_drop]
  have hsplit : rows.flatten = (rows.take i).flatten ++ (rows.drop i).flatten := by rw [← List.flatten_append, List.take_append_drop]
  have htl : (rows.take i).flatten.length = i * 9 := by rw [flat_len (fun r h => hown.ok r (List.mem_of_mem_take h)), List.length_take, Nat.min_eq_left (by omega)]
  have hdcell : ∀ q u, (rows.drop i).flatten[q]? = some u → w.cell? ⟨g, i * 9 + q, none⟩ = some u := fun q u hq => hcell _ _ (by rw [hsplit, List.getElem?_append_right (by omega), htl, Nat.add_sub_cancel_left]; exact hq)
  have h1d : ∀ u ∈ (rows.drop i).flatten, u.oneCell' = true := fun u hu => by
    obtain ⟨r, hr, hu'⟩ := List.mem_flatten.1 hu
    exact (hokd r hr).2 u hu'
  have hm9 : (rows.length + 1) * 9 ≤ cap * 9 := Nat.mul_le_mul_right _ hroom
  have hi9 : (i + 1) * 9 + (rows.length - i) * 9 = (rows.length + 1) * 9 := by rw [← Nat.add_mul]; congr 1; omega
  have hcp1 : ∀ ty dc sc, (Builtin.copy_ #[27, 27] ty #[.slice (some ⟨g, (i + 1) * 9, none⟩) (rows.length - i) dc, .slice (some ⟨g, i * 9, none⟩) (rows.length + 1 - i) sc]).run Try.prog w.drew = .ok (goInt (Nat.min (rows.length + 1 - i) (rows.length - i))) (w.drew.setCells g ((i + 1) * 9) (rows.drop i).flatten) := fun ty dc sc =>
    run_copy_rows w.drew _ _ ty 26 9 g ((i + 1) * 9) (rows.length - i) dc ⟨g, i * 9, none⟩ (rows.length + 1 - i) sc (rows.drop i).flatten Try.underlying27 info_size_ver (by rw [hdl, show Nat.min (rows.length + 1 - i) (rows.length - i) = rows.length - i by simp only [Nat.min_def]; split <;> omega])
      (fun j u hj => by rw [Addr.add_lit]; exact hdcell j u hj)
      (fun j hj => hall _ (by omega)) (fun j _ => hgb.frozen _) h1d
  obtain ⟨W1, hW1⟩ : ∃ W1, W1 = w.drew.setCells g ((i + 1) * 9) (rows.drop i).flatten := ⟨_, rfl⟩
  have hv1 : ∀ j u, x[j]? = some u → W1.cell? ⟨v, j, none⟩ = some u := fun j u hj => by
    rw [hW1, World.cell?_setCells_out g _ _ _ _ (fun h _ => absurd h hvg)]
    have := hv.cell j
    rw [← hx, Array.getElem?_toList] at hj
    rw [hj] at this
    exact this
  have hsp1 : ∀ q, q < cap * 9 → (W1.cell? ⟨g, q, none⟩).isSome = true := fun q hq => by
    rw [hW1]
    exact isSome_setCells g (rows.drop i).flatten ((i + 1) * 9) w.drew (fun j hj => hall _ (by rw [hdl] at hj; omega)) _ (hall q hq)
  have hcp2 : ∀ (W : World), (∀ x, W.cell? x = W1.cell? x) → (∀ x, W.frozen? x = W1.frozen? x) → ∀ ty dc, (Builtin.copy_ #[27, 27] ty #[.slice (some ⟨g, i * 9, none⟩) (rows.length + 1 - i) dc, .slice (some ⟨v, 0, none⟩) 1 1]).run Try.prog W = .ok (goInt (Nat.min 1 (rows.length + 1 - i))) (W.setCells g (i * 9) x) := fun W hWc hWf ty dc =>
    run_copy_rows W _ _ ty 26 9 g (i * 9) (rows.length + 1 - i) dc ⟨v, 0, none⟩ 1 1 x Try.underlying27 info_size_ver (by rw [hxl, show Nat.min 1 (rows.length + 1 - i) = 1 by simp only [Nat.min_def]; split <;> omega])
      (fun j u hj => by rw [Addr.add_lit, hWc, Nat.zero_add]; exact hv1 j u hj)
      (fun j hj => by rw [hWc]; exact hsp1 _ (by omega))
      (fun j hj => by rw [hWf, hW1, World.frozen?_setCells]; exact hgb.frozen _) hx1
  have hw1 : IntKind.i64.wrap ((i : Int) + 1) = (i : Int) + 1 := by rw [IntKind.wrap_i64]; omega
  have hb1 : (0 : Int) ≤ (i : Int) + 1 := by omega
  have hin : i ≤ rows.length := by omega
  have htn : ((i : Int) + 1).toNat = i + 1 := by omega
  have hb2 : ¬ (cap = i + 1) := by omega
  have hb3 : (i : Int) ≤ (rows.length : Int) + 1 := by omega
  have hb4 : ¬ (cap = i) := by omega
  have hz2 : ¬ ((i : Int) = (rows.length : Int)) := by omega
  have hfin : InsP B w rows x i (.returned (.slice (some ⟨g, 0, none⟩) (rows.length + 1) cap)) ((w.drew.setCells g ((i + 1) * 9) (rows.drop i).flatten).setCells g (i * 9) x) := by
    obtain ⟨r1, r2, r3⟩ := ins_read (w := w.drew) (g := g) (i := i) (n := rows.length) (d := (rows.drop i).flatten) (x := x) (fun q hq => hall q (by omega)) hdl hi hxl
    have hsz2 : ((w.drew.setCells g ((i + 1) * 9) (rows.drop i).flatten).setCells g (i * 9) x).heap.size = w.heap.size := by rw [size_setCells_, size_setCells_]; rfl
    refine ⟨_, _, rfl, ⟨ins_sl hown.ok (by omega) (by rw [hsz2]; exact hgb.lt) (fun q u hq hu => ?_) r2 r3, ?_, hroom, hown.cap_le.2, fun h => by cases h⟩, fun kk hk => by cases hk; exact hgB, ?_⟩
    · rw [r1 q hq]; exact hcell q u hu
    · simp; omega
    · exact below_setCells hgB _ _ _ (below_setCells hgB _ _ _ ((Below.refl B w).drew))
  rw [← hW1] at hcp1 hfin
  have HF := hide hfin
  clear hown hcell hall hsplit htl hdcell h1d hv1 hsp1 hfin hrl htk hgb hv hsz
  go_enter Try.func32, Try.ntmps32
  go_wp2_with (simp only [hov])
  go_region_law (refine step_copy_runI rfl _ _ 27 27 rfl _ _ (by simp [Act.eval, Act.put]) (by simp [Act.eval, Act.put]) (hcp1 _ _ _) ?_)
  go_wp2_with (at_builtin; refine wpList_copy_runI _ rfl _ _ 27 27 rfl _ _ rfl rfl (hcp2 _ (fun _ => rfl) (fun _ => rfl) _ _) ?_)
  go_ret
  have h := HF.out
  rw [hW1] at h
  exact h

set_option maxRecDepth 100000 in
set_option maxHeartbeats 4000000 in
/-- There is no room: a new row. -/
theorem ins_grow (B : Nat) (A : Option Addr) (cap i : Nat) (rows : List (List Value)) (x : List Value) (v : Nat) (cs : Array Value) (w : World) (hB : B ≤ w.heap.size) (hown : OwnS w B 26 9 A rows.length cap rows) (hv : Blk w v 26 cs) (hx : cs.toList = x) (hxl : x.length = 9) (hx1 : ∀ u ∈ x, u.oneCell' = true) (hn : rows.length ≤ 200) (hi : i < rows.length) (hroom : cap < rows.length + 1) :
    Calls Try.prog 32 #[.slice A rows.length cap, .int .i64 i, .slice (some ⟨v, 0, none⟩) 1 1] w (InsP B w rows x i) := by
  have hmx := hown.cap_le.1
  have hmy := hown.cap_le.2
  unfold maxLen at hmy
  obtain ⟨g, c, cur, hA, hgB, hgb, _, _, hsz, htk⟩ : ∃ g c cur, A = some ⟨g, 0, none⟩ ∧ B ≤ g ∧ Blk w g 26 cur ∧ c = cap ∧ True ∧ cur.size = cap * 9 ∧ cur.toList.take (rows.length * 9) = rows.flatten := by
    rcases hown.own.2 with ⟨h1, h2⟩ | ⟨g, c, cur, hv, h1, h2, h3, h4, h5, h6⟩
    · omega
    · cases hv
      exact ⟨g, _, cur, rfl, h1, h2, rfl, trivial, h5, h6⟩
  subst hA
  obtain ⟨i0, z, hi0, hz0, hzs, hzb, hzc⟩ := elVer.hi
  have hrl := flat_len hown.ok
  have hcell : ∀ q u, rows.flatten[q]? = some u → w.cell? ⟨g, q, none⟩ = some u := fun q u hq => by
    have hql := lt_of_get hq
    rw [← htk, List.getElem?_take, if_pos (by omega), Array.getElem?_toList] at hq
    rw [hgb.cell q]; exact hq
  have hokd : RowsOk 9 (rows.drop i) := fun r h => hown.ok r (List.mem_of_mem_drop h)
  have hdl : (rows.drop i).flatten.length = (rows.length - i) * 9 := by rw [flat_len hokd, List.length_drop]
  have hsplit : rows.flatten = (rows.take i).flatten ++ (rows.drop i).flatten := by rw [← List.flatten_append, List.take_append_drop]
  have htl : (rows.take i).flatten.length = i * 9 := by rw [flat_len (fun r h => hown.ok r (List.mem_of_mem_take h)), List.length_take, Nat.min_eq_left (by omega)]
  have hdcell : ∀ q u, (rows.drop i).flatten[q]? = some u → w.cell? ⟨g, i * 9 + q, none⟩ = some u := fun q u hq => hcell _ _ (by rw [hsplit, List.getElem?_append_right (by omega), htl, Nat.add_sub_cancel_left]; exact hq)
  have htcell : ∀ q u, (rows.take i).flatten[q]? = some u → w.cell? ⟨g, q, none⟩ = some u := fun q u hq => hcell _ _ (by rw [hsplit, List.getElem?_append_left (lt_of_get hq)]; exact hq)
  have h1d : ∀ u ∈ (rows.drop i).flatten, u.oneCell' = true := fun u hu => by
    obtain ⟨r, hr, hu'⟩ := List.mem_flatten.1 hu
    exact (hokd r hr).2 u hu'
  have hkk : (rows.length : Int) + 1 - (i : Int) = ((rows.length + 1 - i : Nat) : Int) := by omega
  have hik : i + (rows.length + 1 - i) = rows.length + 1 := by omega
  have hold : (Builtin.firstCells i0.size i (.slice (some ⟨g, 0, none⟩) i cap)).run Try.prog w.drew = .ok (rows.take i).flatten.toArray w.drew := by
    rw [hzs]
    exact run_firstCells_some w.drew 9 i ⟨g, 0, none⟩ i cap _ htl (fun j u hj => by rw [Addr.add_lit, Nat.zero_add]; exact htcell j u hj)
  have hrz : ∀ ty, (Builtin.append_ #[27, 3] ty #[.slice (some ⟨g, 0, none⟩) i cap, .int .i64 ((rows.length : Int) + 1 - (i : Int))]).run Try.prog w =
      .ok (.slice (some ⟨w.heap.size, 0, none⟩) (rows.length + 1) (grownCap w (rows.length + 1) cap 26)) (w.drew.alloc (.cells ((rows.take i).flatten.toArray ++ Builtin.zeroCells z.cells (rows.length + 1 - i) ++ Builtin.zeroCells z.cells (grownCap w (rows.length + 1) cap 26 - (rows.length + 1))) 26)) := fun ty => by
    have h := Lib.run_append_grow_zeros w 27 3 ty 26 i0 _ .i64 .i64 Try.underlying27 Try.underlying3 hi0 hz0 (some ⟨g, 0, none⟩) i cap (rows.take i).flatten hold (rows.length + 1 - i) (by omega) (by omega) (by omega) (by omega) (by rw [hzb]; omega) (by rw [hzb, hik]; exact growslice_fits hroom (by omega))
    rw [hik] at h
    rw [hkk]
    exact h
  obtain ⟨G, hG⟩ : ∃ G, G = grownCap w (rows.length + 1) cap 26 := ⟨_, rfl⟩
  obtain ⟨ROW, hROW⟩ : ∃ ROW : Array Value, ROW = (rows.take i).flatten.toArray ++ Builtin.zeroCells z.cells (rows.length + 1 - i) ++ Builtin.zeroCells z.cells (G - (rows.length + 1)) := ⟨_, rfl⟩
  rw [← hG] at hrz
  rw [← hROW] at hrz
  have hz9 : (Builtin.zeroCells z.cells (rows.length + 1 - i)).size = (rows.length + 1 - i) * 9 := by rw [size_zeroCells, hzc]
  have hRl : (rows.length + 1) * 9 ≤ ROW.size := by
    rw [hROW, Array.size_append, Array.size_append, hz9, List.size_toArray, htl]
    omega
  have hRt : ∀ q u, (rows.take i).flatten[q]? = some u → ROW[q]? = some u := fun q u hq => by
    have hql := lt_of_get hq
    rw [hROW, Array.append_assoc, Array.getElem?_append_left (by simpa using hql)]
    simpa using hq
  obtain ⟨W1, hW1⟩ : ∃ W1, W1 = w.drew.alloc (.cells ROW 26) := ⟨_, rfl⟩
  rw [← hW1] at hrz
  have hgl := hgb.lt
  have hvl := hv.lt
  have hbN : g ≠ w.heap.size := by omega
  have hB1 : Blk W1 w.heap.size 26 ROW := by rw [hW1]; exact Blk.new w.drew _ _
  have hN : ∀ q, q < (rows.length + 1) * 9 → (W1.cell? ⟨w.heap.size, q, none⟩).isSome = true := fun q hq => isSome_cell hB1 (by omega)
  have hNf : ∀ q, W1.frozen? ⟨w.heap.size, q, none⟩ = false := fun q => hB1.frozen q
  have hOg : ∀ q u, w.cell? ⟨g, q, none⟩ = some u → W1.cell? ⟨g, q, none⟩ = some u := fun q u h => by rw [hW1, World.cell?_alloc_past (w := w.drew) _ g q hgl]; exact h
  have hOv : ∀ j u, x[j]? = some u → W1.cell? ⟨v, j, none⟩ = some u := fun j u hj => by
    rw [hW1, World.cell?_alloc_past (w := w.drew) _ v j hvl]
    have := hv.cell j
    rw [← hx, Array.getElem?_toList] at hj
    rw [hj] at this
    exact this
  have hcpA : ∀ (W : World), (∀ x, W.cell? x = W1.cell? x) → (∀ x, W.frozen? x = W1.frozen? x) → ∀ ty dc, (Builtin.copy_ #[27, 27] ty #[.slice (some ⟨w.heap.size, i * 9, none⟩) (rows.length + 1 - i) dc, .slice (some ⟨v, 0, none⟩) 1 1]).run Try.prog W = .ok (goInt (Nat.min 1 (rows.length + 1 - i))) (W.setCells w.heap.size (i * 9) x) := fun W hWc hWf ty dc =>
    run_copy_rows W _ _ ty 26 9 w.heap.size (i * 9) (rows.length + 1 - i) dc ⟨v, 0, none⟩ 1 1 x Try.underlying27 info_size_ver (by rw [hxl, show Nat.min 1 (rows.length + 1 - i) = 1 by simp only [Nat.min_def]; split <;> omega])
      (fun j u hj => by rw [Addr.add_lit, hWc, Nat.zero_add]; exact hOv j u hj)
      (fun j hj => by rw [hWc]; exact hN _ (by omega))
      (fun j hj => by rw [hWf]; exact hNf _) hx1
  have h9 : (i + 1) * 9 + (rows.length - i) * 9 = (rows.length + 1) * 9 := by rw [← Nat.add_mul]; congr 1; omega
  have hcpB : ∀ (W : World), (∀ y, W.cell? y = (W1.setCells w.heap.size (i * 9) x).cell? y) → (∀ y, W.frozen? y = (W1.setCells w.heap.size (i * 9) x).frozen? y) → ∀ ty dc sc, (Builtin.copy_ #[27, 27] ty #[.slice (some ⟨w.heap.size, (i + 1) * 9, none⟩) (rows.length - i) dc, .slice (some ⟨g, i * 9, none⟩) (rows.length - i) sc]).run Try.prog W = .ok (goInt (Nat.min (rows.length - i) (rows.length - i))) (W.setCells w.heap.size ((i + 1) * 9) (rows.drop i).flatten) := fun W hWc hWf ty dc sc =>
    run_copy_rows W _ _ ty 26 9 w.heap.size ((i + 1) * 9) (rows.length - i) dc ⟨g, i * 9, none⟩ (rows.length - i) sc (rows.drop i).flatten Try.underlying27 info_size_ver (by rw [hdl, show Nat.min (rows.length - i) (rows.length - i) = rows.length - i by simp only [Nat.min_def]; split <;> omega])
      (fun j u hj => by
        rw [Addr.add_lit, hWc, World.cell?_setCells_out _ _ _ _ _ (fun h _ => absurd h hbN)]
        exact hOg _ u (hdcell j u hj))
      (fun j hj => by rw [hWc]; exact isSome_setCells _ _ _ _ (fun t ht => hN _ (by omega)) _ (hN _ (by rw [hdl] at hj; omega)))
      (fun j hj => by rw [hWf, World.frozen?_setCells]; exact hNf _) h1d
  have hfin : InsP B w rows x i (.returned (.slice (some ⟨w.heap.size, 0, none⟩) (rows.length + 1) G)) ((((w.alloc (.cells ROW 26)).drew.setCells w.heap.size (i * 9) x).drew).setCells w.heap.size ((i + 1) * 9) (rows.drop i).flatten) := by
    have hBa : Blk (w.alloc (.cells ROW 26)) w.heap.size 26 ROW := Blk.new w _ _
    rw [drew_setCells]
    obtain ⟨r1, r2, r3⟩ := ins_read2 (w := (w.alloc (.cells ROW 26)).drew.drew) (g := w.heap.size) (i := i) (n := rows.length) (d := (rows.drop i).flatten) (x := x) (fun q hq => isSome_cell hBa.drew.drew (by omega)) hdl hi hxl
    refine ⟨_, _, rfl, ⟨ins_sl hown.ok (by omega) (by rw [size_setCells_, size_setCells_]; exact hBa.drew.drew.lt) (fun q u hq hu => ?_) r2 r3, ?_, ?_, ?_, fun h => by cases h⟩, fun kk hk => by cases hk; exact hB, ?_⟩
    · rw [r1 q hq, hBa.drew.drew.cell q]
      refine hRt q u ?_
      rw [hsplit, List.getElem?_append_left (by omega)] at hu
      exact hu
    · simp; omega
    · rw [hG]; exact grownCap_ge w _ _ _
    · rw [hG]; exact grownCap_le_maxLen w _ _ _ (by unfold maxLen; omega)
    · exact below_setCells hB _ _ _ (below_setCells hB _ _ _ (((Below.refl B w).alloc hB _).drew.drew))
  have hGn : rows.length + 1 ≤ G := by rw [hG]; exact grownCap_ge w _ _ _
  have hG63 : G ≤ 9223372036854775807 := by
    have := grownCap_le_maxLen w (rows.length + 1) cap 26 (by unfold maxLen; omega)
    rw [← hG] at this
    unfold maxLen at this
    omega
  have HF := hide hfin
  clear hfin hkk hik hold hROW hG hRl hRt hz9 hB1 hN hNf hOg hOv hown hcell hsplit htl hdcell htcell h1d hrl htk hgb hv hsz hi0 hz0 hzs hzb hzc hokd
  subst hW1
  have hE1 : ∀ x, ((w.alloc (.cells ROW 26)).drew).cell? x = (w.drew.alloc (.cells ROW 26)).cell? x := fun x => rfl
  have hE2 : ∀ x, ((w.alloc (.cells ROW 26)).drew).frozen? x = (w.drew.alloc (.cells ROW 26)).frozen? x := fun x => rfl
  have hF1 : ∀ y, (((w.alloc (.cells ROW 26)).drew.setCells w.heap.size (i * 9) x).drew).cell? y = ((w.drew.alloc (.cells ROW 26)).setCells w.heap.size (i * 9) x).cell? y := fun y => rfl
  have hF2 : ∀ y, (((w.alloc (.cells ROW 26)).drew.setCells w.heap.size (i * 9) x).drew).frozen? y = ((w.drew.alloc (.cells ROW 26)).setCells w.heap.size (i * 9) x).frozen? y := fun y => rfl
  have hGi : ¬ (G = i) := by omega
  have hGim : ¬ (G = i + 1) := by omega
  have hci : ¬ (cap = i) := by omega
  have hw1 : IntKind.i64.wrap ((i : Int) + 1) = (i : Int) + 1 := by rw [IntKind.wrap_i64]; omega
  have hb1 : (0 : Int) ≤ (i : Int) + 1 := by omega
  have hin : i ≤ rows.length := by omega
  have htn : ((i : Int) + 1).toNat = i + 1 := by omega
  have hb3 : (i : Int) ≤ (rows.length : Int) := by omega
  have hz2 : ¬ ((i : Int) = (rows.length : Int)) := by omega
  have hz3 : (cap : Int) < (rows.length : Int) + 1 := by omega
  go_enter Try.func32, Try.ntmps32
  go_wp2_with (first
    | (at_builtin; refine Lib.wpList_append_run _ rfl _ _ _ _ rfl _ _ rfl rfl _ _ (hrz _) ?_)
    | (at_builtin; refine wpList_copy_runI _ rfl _ _ 27 27 rfl _ _ rfl rfl (hcpA _ hE1 hE2 _ _) ?_)
    | (at_builtin; refine wpList_copy_runI _ rfl _ _ 27 27 rfl _ _ rfl rfl (hcpB _ (fun _ => rfl) (fun _ => rfl) _ _ _) ?_))
  go_region_law (refine step_copy_runI rfl _ _ 27 27 rfl (.slice (some ⟨w.heap.size, (i + 1) * 9, none⟩) (rows.length - i) (G - (i + 1))) (.slice (some ⟨g, i * 9, none⟩) (rows.length - i) (cap - i)) (by simp [Act.eval, Act.put]) (by simp [Act.eval, Act.put]) (hcpB _ hF1 hF2 3 (G - (i + 1)) (cap - i)) ?_)
  go_wp2_with fail
  go_ret
  exact HF.out
end Go.Proofs.Ytaboachegclaiaa
