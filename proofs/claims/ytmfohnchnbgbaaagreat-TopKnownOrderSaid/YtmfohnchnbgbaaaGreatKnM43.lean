/- Part 43 of the proof. -/
import Derived.Test.YtmfohnchnbgbaaaGreatKnM30
import Derived.Test.YtmfohnchnbgbaaaGreatKnM42
/- Changes of unlike days, turned round: the plain law. -/
namespace Go.Proofs.YtmfohnchnbgbaaaGreat
open Go.RowKit

/-- A change, whenever it was booked. -/
def unb (c : Ch) : Ch := { c with b := 0 }
theorem step_unb (s : Sp × List Sp) (c : Ch) : stepV s (unb c) = stepV s c := rfl
theorem st_unb {x : Tm} {L L' : List Ch} (h : L.map unb = L'.map unb) : stV x L = stV x L' := by
  have key : ∀ L : List Ch, stV x (L.map unb) = stV x L := fun L => by
    unfold stV
    rw [List.foldl_map]
    rfl
  rw [← key L, ← key L', h]
theorem cut_unb {x : Tm} {L L' : List Ch} (h : L.map unb = L'.map unb) : cutV x L = cutV x L' := by
  unfold cutV
  rw [st_unb h]
theorem range_fm {α : Type} (l : List α) : (List.range l.length).filterMap (fun o => l[o]?) = l := by
  refine List.ext_getElem? fun i => ?_
  have key : ∀ n, n ≤ l.length → (List.range n).filterMap (fun o => l[o]?) = l.take n := by
    intro n
    induction n with
    | zero => intro _; simp
    | succ n ih =>
      intro hn
      obtain ⟨x, hx⟩ := get_of (l := l) (k := n) (by omega)
      rw [List.range_succ, List.filterMap_append, ih (by omega), take_of hx]
      simp [hx]
  rw [key _ (Nat.le_refl _), List.take_length]
theorem chL_perm (h : Hi) : (chL h).Perm h.cs := by
  have := (ordL_perm h.cs).filterMap (fun o => h.cs[o]?)
  rwa [range_fm] at this
theorem chL_like {h h' : Hi} (hp : (h'.cs.map unb).Perm (h.cs.map unb)) (hd : (h.cs.map (·.d)).Nodup) : (chL h').map unb = (chL h).map unb := by
  have strict : ∀ x : Hi, (x.cs.map (·.d)).Nodup → ((chL x).map unb).Pairwise fun a b => a.d < b.d := fun x hx => by
    have h1 : ((chL x).map (·.d)).Nodup := ((chL_perm x).map _).nodup_iff.2 hx
    rw [List.pairwise_map]
    have h2 := chL_sorted x
    unfold List.Nodup at h1
    rw [List.pairwise_map] at h1
    refine (h2.and h1).imp ?_
    intro a b hab
    have e1 : (unb a).d = a.d := rfl
    have e2 : (unb b).d = b.d := rfl
    rw [e1, e2]
    omega
  have hd' : (h'.cs.map (·.d)).Nodup := by
    have e : ∀ l : List Ch, l.map (·.d) = (l.map unb).map (·.d) := fun l => by rw [List.map_map]; rfl
    rw [e] at hd ⊢
    exact (hp.map _).nodup_iff.2 hd
  refine sorted_unique (lt := fun a b : Ch => a.d < b.d) (fun x y h1 h2 => by omega) ?_ (strict h' hd') (strict h hd)
  exact (((chL_perm h').map unb).trans hp).trans ((chL_perm h).map unb).symm
theorem all_perm {α : Type} {l l' : List α} (p : α → Bool) (h : l.Perm l') : l.all p = l'.all p := by
  rw [Bool.eq_iff_iff, List.all_eq_true, List.all_eq_true]
  exact ⟨fun a x hx => a x (h.mem_iff.2 hx), fun a x hx => a x (h.mem_iff.1 hx)⟩
theorem right_like {h h' : Hi} (ht : h'.tm = h.tm) (hp : (h'.cs.map unb).Perm (h.cs.map unb)) (hb : (h'.cs.map (·.b)).Perm (h.cs.map (·.b))) : rightH h' = rightH h := by
  have hl : h'.cs.length = h.cs.length := by have := hp.length_eq; simpa using this
  have key : ∀ (x : Hi), x.tm = h.tm → chsB x x.cs = ((x.cs.map (·.b)).all (fun b => decide (1 ≤ b ∧ b ≤ 292194)) && (x.cs.map unb).all fun c => (decide (1 ≤ c.d ∧ c.d ≤ 292194) && kindB c) && inB h.tm.f h.tm.t c.d) := fun x hx => by
    unfold chsB
    rw [Bool.eq_iff_iff, Bool.and_eq_true, List.all_eq_true, List.all_eq_true, List.all_eq_true]
    constructor
    · intro ha
      refine ⟨fun b hb => ?_, fun c hc => ?_⟩
      · obtain ⟨c, hc, rfl⟩ := List.mem_map.1 hb
        have := ha c hc
        unfold chB changeB at this
        rw [Bool.and_eq_true, Bool.and_eq_true, Bool.and_eq_true] at this
        exact this.1.1.1
      · obtain ⟨c0, hc0, rfl⟩ := List.mem_map.1 hc
        have := ha c0 hc0
        unfold chB changeB at this
        rw [hx, Bool.and_eq_true, Bool.and_eq_true, Bool.and_eq_true] at this
        rw [Bool.and_eq_true, Bool.and_eq_true]
        exact ⟨⟨this.1.1.2, this.1.2⟩, this.2⟩
    · rintro ⟨h1, h2⟩ c hc
      have a1 := h1 c.b (List.mem_map.2 ⟨c, hc, rfl⟩)
      have a2 := h2 (unb c) (List.mem_map.2 ⟨c, hc, rfl⟩)
      rw [Bool.and_eq_true, Bool.and_eq_true] at a2
      unfold chB changeB
      rw [hx, Bool.and_eq_true, Bool.and_eq_true, Bool.and_eq_true]
      exact ⟨⟨⟨a1, a2.1.1⟩, a2.1.2⟩, a2.2⟩
  unfold rightH
  rw [key h' ht, key h rfl, all_perm _ hb, all_perm _ hp, ht, hl]
theorem sl_like {h h' : Hi} (M : List Ver) (ht : h'.tm = h.tm) (hr : rightH h' = rightH h) (hc : (chL h').map unb = (chL h).map unb) : slE h' (chL h') M = slE h (chL h) M ∧ slL h' (chL h') M = slL h (chL h) M := by
  unfold slE slL
  rw [hr, ht, cut_unb hc]
  exact ⟨rfl, rfl⟩
def k34 (c : Ch) : Bool := decide (c.k = 3 ∨ c.k = 4)
theorem turnO_find (cs : List Ch) : ∀ O : List Nat, (turnO cs O).map Prod.snd = (O.filterMap fun o => cs[o]?).find? k34
  | [] => rfl
  | o :: r => by
    rw [turnO]
    cases hc : cs[o]? with
    | none => rw [List.filterMap_cons_none hc]; exact turnO_find cs r
    | some c =>
      rw [List.filterMap_cons_some hc]
      simp only
      by_cases hk : c.k = 3 ∨ c.k = 4
      · rw [if_pos hk, List.find?_cons_of_pos (by unfold k34; exact decide_eq_true hk)]; rfl
      · rw [if_neg hk, List.find?_cons_of_neg (by unfold k34; simpa using hk)]
        exact turnO_find cs r
theorem turn_like {h h' : Hi} (hc : (chL h').map unb = (chL h).map unb) :
    (turnO h.cs (ordL h.cs).reverse = none ∧ turnO h'.cs (ordL h'.cs).reverse = none) ∨ ∃ o c o' c', turnO h.cs (ordL h.cs).reverse = some (o, c) ∧ turnO h'.cs (ordL h'.cs).reverse = some (o', c') ∧ h.cs[o]? = some c ∧ h'.cs[o']? = some c' ∧ unb c' = unb c := by
  have e : ∀ x : Hi, (turnO x.cs (ordL x.cs).reverse).map (fun p => unb p.2) = ((chL x).map unb).reverse.find? k34 := fun x => by
    rw [← List.map_reverse, List.find?_map]
    have h1 := turnO_find x.cs (ordL x.cs).reverse
    rw [List.filterMap_reverse] at h1
    have h2 : (k34 ∘ unb) = k34 := by funext c; rfl
    rw [h2, show (chL x).reverse.find? k34 = _ from h1.symm, Option.map_map]
    rfl
  have h1 := e h
  have h2 := e h'
  rw [hc, ← h1] at h2
  rcases turn_o h.cs (ordL h.cs).reverse with ⟨a, -⟩ | ⟨o, c, a, -, b⟩
  · rcases turn_o h'.cs (ordL h'.cs).reverse with ⟨a', -⟩ | ⟨o', c', a', -, b'⟩
    · exact .inl ⟨a, a'⟩
    · rw [a, a'] at h2; cases h2
  · rcases turn_o h'.cs (ordL h'.cs).reverse with ⟨a', -⟩ | ⟨o', c', a', -, b'⟩
    · rw [a, a'] at h2; cases h2
    · rw [a, a'] at h2
      exact .inr ⟨o, c, o', c', a, a', b, b', Option.some.inj h2⟩
theorem less_perm {h : Hi} {o : Nat} {c : Ch} (hc : h.cs[o]? = some c) : (c :: (lessC h o).cs).Perm h.cs := by
  have e1 : (lessC h o).cs = h.cs.take o ++ h.cs.drop (o + 1) := List.eraseIdx_eq_take_drop_succ _ _
  have e2 : h.cs.take o ++ c :: h.cs.drop (o + 1) = h.cs := by rw [← drop_of hc, List.take_append_drop]
  rw [e1]
  have := (List.perm_middle (a := c) (l₁ := h.cs.take o) (l₂ := h.cs.drop (o + 1))).symm
  rwa [e2] at this
theorem less_right {h : Hi} {o : Nat} (hr : rightH h = true) : rightH (lessC h o) = true := by
  unfold rightH at hr ⊢
  rw [Bool.and_eq_true, Bool.and_eq_true] at hr ⊢
  refine ⟨?_, hr.2.1, ?_⟩
  · have h1 := hr.1
    unfold chsB at h1 ⊢
    rw [List.all_eq_true] at h1 ⊢
    exact fun c hc => h1 c ((List.eraseIdx_sublist _ _).mem hc)
  · have h2 := of_decide_eq_true hr.2.2
    have h3 : (lessC h o).cs.length ≤ h.cs.length := (List.eraseIdx_sublist h.cs o).length_le
    exact decide_eq_true (by omega)
theorem slE_right {h : Hi} {L : List Ch} {M : List Ver} (he : slE h L M = 0) : rightH h = true := by
  unfold slE at he
  by_cases hr : rightH h = true
  · exact hr
  · rw [if_neg hr] at he; cases he
/-- THE PLAIN LAW. -/
theorem known_order {h h' : Hi} (M : List Ver) (ht : h'.tm = h.tm) (hp : (h'.cs.map unb).Perm (h.cs.map unb)) (hb : (h'.cs.map (·.b)).Perm (h.cs.map (·.b))) (hd : (h.cs.map (·.d)).Nodup) :
    slE h' (chL h') M = slE h (chL h) M ∧ slL h' (chL h') M = slL h (chL h) M ∧ keptQ h' M = keptQ h M := by
  have hc := chL_like hp hd
  have hr := right_like ht hp hb
  obtain ⟨e1, e2⟩ := sl_like M ht hr hc
  refine ⟨e1, e2, ?_⟩
  unfold keptQ
  rw [e1]
  by_cases he : slE h (chL h) M ≠ 0
  · rw [if_pos he, if_pos he]
  rw [if_neg he, if_neg he]
  rcases turn_like hc with ⟨a, b⟩ | ⟨o, c, o', c', a, b, g, g', hu⟩
  · rw [a, b]
  rw [a, b]
  simp only
  have u1 : c'.k = c.k := (congrArg Ch.k hu : (unb c').k = (unb c).k)
  have u2 : c'.way = c.way := (congrArg Ch.way hu : (unb c').way = (unb c).way)
  have u3 : c'.d = c.d := (congrArg Ch.d hu : (unb c').d = (unb c).d)
  rw [u1, u2]
  by_cases hk : c.k = 3 ∧ c.way = 1
  · rw [if_pos hk, if_pos hk]
    have hrr := slE_right (Decidable.not_not.1 he)
    have hrr' : rightH h' = true := by rw [hr]; exact hrr
    have hp2 : ((lessC h' o').cs.map unb).Perm ((lessC h o).cs.map unb) := by
      have p1 := (less_perm g').map unb
      have p2 := (less_perm g).map unb
      rw [List.map_cons] at p1 p2
      rw [hu] at p1
      exact (p1.trans (hp.trans p2.symm)).cons_inv
    have hd2 : ((lessC h o).cs.map (·.d)).Nodup := hd.sublist ((List.eraseIdx_sublist h.cs o).map _)
    obtain ⟨f1, f2⟩ := sl_like (h := lessC h o) (h' := lessC h' o') M ht (by rw [less_right hrr, less_right hrr']) (chL_like hp2 hd2)
    unfold shortQ
    rw [f1, f2, u3, ht]
  · rw [if_neg hk, if_neg hk]
/-- Changes turned round, each booked when its opposite was. -/
def trnL (cs : List Ch) : List Ch := List.zipWith (fun c e => { c with b := e.b }) cs.reverse cs
theorem zip_unb : ∀ {l l' : List Ch}, l.length = l'.length → (List.zipWith (fun c e : Ch => { c with b := e.b }) l l').map unb = l.map unb ∧ (List.zipWith (fun c e : Ch => { c with b := e.b }) l l').map (·.b) = l'.map (·.b)
  | [], [], _ => ⟨rfl, rfl⟩
  | [], _ :: _, h => by simp at h
  | _ :: _, [], h => by simp at h
  | x :: r, y :: s, h => by
    obtain ⟨a, b⟩ := zip_unb (l := r) (l' := s) (by simpa using h)
    rw [List.zipWith_cons_cons, List.map_cons, List.map_cons, List.map_cons, List.map_cons, a, b]
    exact ⟨rfl, rfl⟩
theorem trn_perm (cs : List Ch) : ((trnL cs).map unb).Perm (cs.map unb) ∧ ((trnL cs).map (·.b)).Perm (cs.map (·.b)) := by
  obtain ⟨a, b⟩ := zip_unb (l := cs.reverse) (l' := cs) (by simp)
  unfold trnL
  rw [a, b]
  exact ⟨(List.reverse_perm cs).map unb, List.Perm.refl _⟩
theorem trn_len (cs : List Ch) : (trnL cs).length = cs.length := by simp [trnL]
theorem trn_at {cs : List Ch} {i j : Nat} {c e : Ch} (hi : cs[i]? = some c) (hj : cs[j]? = some e) (hij : i + j + 1 = cs.length) : (trnL cs)[j]? = some { c with b := e.b } := by
  have hr : cs.reverse[j]? = some c := by
    rw [List.getElem?_reverse (by omega), show cs.length - 1 - j = i by omega]; exact hi
  rw [trnL, List.getElem?_zipWith, hr, hj]
theorem nodup_days {cs : List Ch} (h : ∀ (i k : Nat) (c e : Ch), k < i → cs[i]? = some c → cs[k]? = some e → e.d ≠ c.d) : (cs.map (·.d)).Nodup := by
  unfold List.Nodup
  rw [List.pairwise_map, List.pairwise_iff_getElem]
  intro i j hi hj hij
  exact h j i _ _ hij (List.getElem?_eq_getElem hj) (List.getElem?_eq_getElem hi)
end Go.Proofs.YtmfohnchnbgbaaaGreat

/- slices.At: a day's slice. -/
namespace Go.Proofs.YtmfohnchnbgbaaaGreat
open Go.RowKit Go.Lib

/-- The slice that holds a day. -/
def slAt (l : List Sc) (d : Int) : Option Sc := l.find? fun s => inB s.f s.t d
theorem slAt_no {l : List Sc} {d : Int} {k : Nat} {s : Sc} (h : slAt (l.take k) d = none) (hs : l[k]? = some s) (hb : inB s.f s.t d = false) : slAt (l.take (k + 1)) d = none := by
  rw [take_of hs, slAt, List.find?_append, show (l.take k).find? (fun s => inB s.f s.t d) = none from h]
  simp [hb]
theorem slAt_hit {l : List Sc} {d : Int} {k : Nat} {s : Sc} (h : slAt (l.take k) d = none) (hs : l[k]? = some s) (hb : inB s.f s.t d = true) : slAt l d = some s := by
  have e : l = l.take k ++ (s :: l.drop (k + 1)) := by rw [← drop_of hs, List.take_append_drop]
  rw [slAt, e, List.find?_append, show (l.take k).find? (fun s => inB s.f s.t d) = none from h]
  simp [hb]
def zeroSc : Array Value := #[.int .i64 0, .int .i64 0, .bool false, .int .i64 0, .int .i64 0, .int .i64 0, .int .i64 0, .slice none 0 0, .int .i64 0]
def SatP (r : Option Sc) (w : World) (e : Ending) (w' : World) : Prop :=
  Below w.heap.size w w' ∧ ((r = none ∧ e = .returned (.tuple #[.agg zeroSc, .bool false])) ∨ ∃ s, r = some s ∧ e = .returned (.tuple #[.agg (scC s), .bool true]))
theorem inT_is {f t d : Int} {b : Bool} (h : inB f t d = b) (w : World) :
    Calls Tryz.prog 52 #[.agg #[.int .i64 f, .int .i64 t], .int .i64 d] w fun e w' => e = .returned (.bool b) ∧ Below w.heap.size w w' := by
  subst h; exact in_any f t d w
theorem sc_frozen {w : World} {g : Nat} {cs : Array Value} (h : Blk w g 87 cs) : w.frozen? ⟨g, 0, none⟩ = false ∧ w.frozen? ⟨g, 1, none⟩ = false ∧ w.frozen? ⟨g, 2, none⟩ = false ∧ w.frozen? ⟨g, 3, none⟩ = false ∧ w.frozen? ⟨g, 4, none⟩ = false ∧ w.frozen? ⟨g, 5, none⟩ = false ∧ w.frozen? ⟨g, 6, none⟩ = false ∧ w.frozen? ⟨g, 7, none⟩ = false ∧ w.frozen? ⟨g, 8, none⟩ = false :=
  ⟨h.frozen 0, h.frozen 1, h.frozen 2, h.frozen 3, h.frozen 4, h.frozen 5, h.frozen 6, h.frozen 7, h.frozen 8⟩
theorem sc_cells {w : World} {g : Nat} {x : Sc} (h : Blk w g 87 (scC x)) : w.cell? ⟨g, 0, none⟩ = some (.int .i64 x.f) ∧ w.cell? ⟨g, 1, none⟩ = some (.int .i64 x.t) ∧ w.cell? ⟨g, 2, none⟩ = some (.bool x.on) ∧ w.cell? ⟨g, 3, none⟩ = some (.int .i64 x.rk) ∧ w.cell? ⟨g, 4, none⟩ = some (.int .i64 x.rv) ∧ w.cell? ⟨g, 5, none⟩ = some (.int .i64 x.ra) ∧ w.cell? ⟨g, 6, none⟩ = some (.int .i64 x.rz) ∧ w.cell? ⟨g, 7, none⟩ = some (.slice x.A x.l.length x.cap) ∧ w.cell? ⟨g, 8, none⟩ = some (.int .i64 x.y) :=
  ⟨h.cell 0, h.cell 1, h.cell 2, h.cell 3, h.cell 4, h.cell 5, h.cell 6, h.cell 7, h.cell 8⟩
theorem sc_zero {w : World} {g : Nat} (h : Blk w g 87 zeroSc) : w.cell? ⟨g, 0, none⟩ = some (.int .i64 0) ∧ w.cell? ⟨g, 1, none⟩ = some (.int .i64 0) ∧ w.cell? ⟨g, 2, none⟩ = some (.bool false) ∧ w.cell? ⟨g, 3, none⟩ = some (.int .i64 0) ∧ w.cell? ⟨g, 4, none⟩ = some (.int .i64 0) ∧ w.cell? ⟨g, 5, none⟩ = some (.int .i64 0) ∧ w.cell? ⟨g, 6, none⟩ = some (.int .i64 0) ∧ w.cell? ⟨g, 7, none⟩ = some (.slice none 0 0) ∧ w.cell? ⟨g, 8, none⟩ = some (.int .i64 0) :=
  ⟨h.cell 0, h.cell 1, h.cell 2, h.cell 3, h.cell 4, h.cell 5, h.cell 6, h.cell 7, h.cell 8⟩

set_option maxRecDepth 100000 in
set_option maxHeartbeats 4000000 in
theorem sat_any (A : Option Addr) (cap n : Nat) (l : List Sc) (d : Int) (w : World) (hs : SV w 9 A n cap (l.map encSc)) :
    Calls Tryz.prog 23 #[.slice A n cap, .int .i64 d] w (SatP (slAt l d) w) := by
  have hn : l.length = n := by have := hs.len; simpa using this
  have hle := hs.le
  have hmo := hs.most
  unfold maxLen at hmo
  have HN := hide hn
  have HS := hide hs
  obtain ⟨w1, hw1⟩ : ∃ W, w.alloc (.cells zeroSc 87) = W := ⟨_, rfl⟩
  have hb1 : Below w.heap.size w w1 := by rw [← hw1]; exact (Below.refl _ _).alloc (Nat.le_refl _) _
  have hr1 : Blk w1 w.heap.size 87 zeroSc := by rw [← hw1]; exact Blk.new _ _ _
  have H1 := hide hb1
  have HR1 := hide hr1
  have HW1 := hide hw1
  have hn64 : (n : Int) ≤ 9223372036854775807 := by omega
  clear hb1 hr1 hw1 hs hn hle hmo
  go_enter Tryz.func23, Tryz.ntmps23
  go_upto_region 1 with fail
  change Code.wp _ _ _ _ (w.alloc (.cells zeroSc 87))
  rw [HW1.out]
  clear HW1
  go_wp2_with fail
  go_loopw [10] (fun q wr => ∃ (i : Nat), i ≤ n ∧ q = .int .i64 i ∧ slAt (l.take i) d = none ∧ Below w.heap.size w wr ∧ Blk wr w.heap.size 87 zeroSc) (fun q _ => n - (RowKit.intOf q).toNat)
  case atStart => exact ⟨0, Nat.zero_le _, rfl, rfl, H1.out, HR1.out⟩
  case round =>
    obtain ⟨i, hi, rfl, hno, hb, hrr⟩ := hrel
    have HNO := hide hno
    have HB := hide hb
    have HRR := hide hrr
    clear hno hb hrr
    by_cases hlt : i < n
    · obtain ⟨s, hs⟩ := get_of (l := l) (k := i) (by rw [HN.out]; exact hlt)
      obtain ⟨g, off, hA, hbl, x0, x1, x2, x3, x4, x5, x6, x7, x8⟩ := (HS.out.below HB.out).sl.sc hs
      subst hA
      have HGT := hide hs
      have hk0 : (0 : Int) ≤ (i : Int) := by omega
      have hk1 : (i : Int) < (n : Int) := by omega
      clear hs
      obtain ⟨w6, hw6⟩ : ∃ W, wr.alloc (.cells (scC s) 87) = W := ⟨_, rfl⟩
      have hb6 : Below wr.heap.size wr w6 := by rw [← hw6]; exact (Below.refl _ _).alloc (Nat.le_refl _) _
      have hS6 : Blk w6 wr.heap.size 87 (scC s) := by rw [← hw6]; exact Blk.new _ _ _
      have HW6 := hide hw6
      have HB62 := hide (chain HB.out hb6)
      have HR6 := hide (HRR.out.below hb6 HRR.out.lt)
      have HS6 := hide hS6
      have hX := hS6.lt
      clear hw6 hb6 hS6
      go_upto_region 4 with fail
      rw [show wr.alloc (.cells #[.int .i64 s.f, .int .i64 s.t, .bool s.on, .int .i64 s.rk, .int .i64 s.rv, .int .i64 s.ra, .int .i64 s.rz, .slice s.A s.l.length s.cap, .int .i64 s.y] 87) = w6 from HW6.out]
      obtain ⟨X, hXX⟩ : ∃ X, wr.heap.size = X := ⟨_, rfl⟩
      have hwX := HRR.out.lt
      rw [hXX] at HS6 hX hwX ⊢
      clear hXX HW6 x0 x1 x2 x3 x4 x5 x6 x7 x8
      obtain ⟨k0, k1, k2, k3, k4, k5, k6, k7, k8⟩ := sc_cells HS6.out
      obtain ⟨b, hbb⟩ : ∃ b, inB s.f s.t d = b := ⟨_, rfl⟩
      have HI := hide (inT_is hbb w6)
      have HBB := hide hbb
      clear hbb
      go_wp2_with fail
      refine HI.out.mono ?_
      rintro e w7 ⟨rfl, h7⟩
      have HB7 := hide (chain HB62.out h7)
      have HR7 := hide (HR6.out.below h7 HR6.out.lt)
      have HS7 := hide (HS6.out.below h7 hX)
      clear HB62 HR6 HS6 k0 k1 k2 k3 k4 k5 k6 k7 k8 h7 HI
      cases b
      · have HNX := hide (slAt_no HNO.out HGT.out HBB.out)
        go_wp2_with fail
        go_roundw
        case rel => exact ⟨i + 1, by omega, by go_num, HNX.out, HB7.out, HR7.out⟩
        case measure => simp [RowKit.intOf]; omega
      · have HH := hide (slAt_hit HNO.out HGT.out HBB.out)
        obtain ⟨k0, k1, k2, k3, k4, k5, k6, k7, k8⟩ := sc_cells HS7.out
        obtain ⟨z0, z1, z2, z3, z4, z5, z6, z7, z8⟩ := sc_zero HR7.out
        obtain ⟨f0, f1, f2, f3, f4, f5, f6, f7, f8⟩ := sc_frozen HR7.out
        go_wp2_with fail
        exact ret_row2 rfl rfl rfl rfl (((((((((HR7.out.set_ 0 _).set_ 1 _).set_ 2 _).set_ 3 _).set_ 4 _).set_ 5 _).set_ 6 _).set_ 7 _).set_ 8 _) Tryz.underlying87 rfl (by kernel_rfl)
          ⟨((((((((HB7.out.setCell (by simp) _).setCell (by simp) _).setCell (by simp) _).setCell (by simp) _).setCell (by simp) _).setCell (by simp) _).setCell (by simp) _).setCell (by simp) _).setCell (by simp) _, .inr ⟨s, HH.out, rfl⟩⟩
    · obtain rfl : i = n := by omega
      have htk : l.take i = l := List.take_of_length_le (by rw [HN.out]; exact Nat.le_refl _)
      have HK := hide (show slAt l d = none by have := HNO.out; rwa [htk] at this)
      obtain ⟨z0, z1, z2, z3, z4, z5, z6, z7, z8⟩ := sc_zero HRR.out
      obtain ⟨f0, f1, f2, f3, f4, f5, f6, f7, f8⟩ := sc_frozen HRR.out
      clear htk
      go_wp2_with fail
      exact ret_row2 rfl rfl rfl rfl (((((((((HRR.out.set_ 0 _).set_ 1 _).set_ 2 _).set_ 3 _).set_ 4 _).set_ 5 _).set_ 6 _).set_ 7 _).set_ 8 _) Tryz.underlying87 rfl (by kernel_rfl)
          ⟨((((((((HB.out.setCell (by simp) _).setCell (by simp) _).setCell (by simp) _).setCell (by simp) _).setCell (by simp) _).setCell (by simp) _).setCell (by simp) _).setCell (by simp) _).setCell (by simp) _, .inl ⟨HK.out, rfl⟩⟩
end Go.Proofs.YtmfohnchnbgbaaaGreat
