/- Part 20 of the proof. -/
import Derived.Test.YtmfohnchnbgbaaaGreatTcM11
import Derived.Test.YtmfohnchnbgbaaaGreatTcM18
import Derived.Test.YtmfohnchnbgbaaaGreatTcM19
/- Sorting: a slice of numbers is sorted, block by block. -/
namespace Go.Proofs.YtmfohnchnbgbaaaGreat
open Go.RowKit
section
variable {α : Type} {val : α → Int} {w0 : World} {B g n cap : Nat} {lt : α → α → Prop} {pos : α → Nat} {U : α → Prop} {H : Nat} {cf : α → α → Int}
/-- Blocks: all but the last have one length, the last has no more. -/
def Lens (bs : Nat) : List (List α) → Prop
  | [] => True
  | [S] => 1 ≤ S.length ∧ S.length ≤ bs
  | S :: T :: r => S.length = bs ∧ Lens bs (T :: r)
theorem Lens.tail {bs : Nat} {S : List α} {r : List (List α)} (h : Lens bs (S :: r)) : Lens bs r := by
  cases r with
  | nil => trivial
  | cons T r => exact h.2
theorem Lens.le {bs : Nat} : ∀ {l : List (List α)}, Lens bs l → 1 ≤ bs → ∀ S ∈ l, 1 ≤ S.length ∧ S.length ≤ bs
  | [], _, _, S, h => by simp at h
  | [T], h, _, S, hS => by simp at hS; subst hS; exact h
  | T :: T2 :: r, h, hb, S, hS => by
    rcases List.mem_cons.1 hS with rfl | hS
    · have := h.1; omega
    · exact Lens.le h.2 hb S hS
/-- Full blocks ahead of others. -/
theorem Lens.app {bs : Nat} : ∀ {Ds : List (List α)} {Rs : List (List α)}, (∀ S ∈ Ds, S.length = bs) → Lens bs Rs → 1 ≤ bs → Lens bs (Ds ++ Rs)
  | [], Rs, _, h, _ => h
  | [D], [], hD, _, hb => by have := hD D (by simp); exact ⟨by omega, by omega⟩
  | [D], R :: r, hD, h, _ => ⟨hD D (by simp), h⟩
  | D :: D2 :: r, Rs, hD, h, hb => ⟨hD D (by simp), Lens.app (Ds := D2 :: r) (fun S hS => hD S (by simp [hS])) h hb⟩
/-- Where there is as much as two blocks there are two whole ones. -/
theorem Lens.two {bs : Nat} {Rs : List (List α)} (h : Lens bs Rs) (hb : 1 ≤ bs) (h2 : 2 * bs ≤ Rs.flatten.length) : ∃ (A C : List α) (Rs' : List (List α)), Rs = A :: C :: Rs' ∧ A.length = bs ∧ C.length = bs ∧ Lens bs Rs' := by
  cases Rs with
  | nil => simp at h2; omega
  | cons A Rs =>
    cases Rs with
    | nil => simp at h2; have := h.2; omega
    | cons C Rs' =>
      refine ⟨A, C, Rs', rfl, h.1, ?_, h.2.tail⟩
      cases Rs' with
      | nil => have h3 := h.1; have h4 := h.2.2; simp at h2; omega
      | cons T r => exact h.2.1
theorem Lens.less {bs : Nat} {Rs : List (List α)} (h : Lens bs Rs) (h2 : Rs.flatten.length < 2 * bs) : (Rs = [] ∨ ∃ A, Rs = [A] ∧ 1 ≤ A.length ∧ A.length ≤ bs) ∨ ∃ A C, Rs = [A, C] ∧ A.length = bs ∧ 1 ≤ C.length ∧ C.length ≤ bs := by
  cases Rs with
  | nil => exact .inl (.inl rfl)
  | cons A Rs =>
    cases Rs with
    | nil => exact .inl (.inr ⟨A, rfl, h⟩)
    | cons C Rs' =>
      cases Rs' with
      | nil => exact .inr ⟨A, C, rfl, h.1, h.2⟩
      | cons T r =>
        exfalso
        have h3 := h.1
        have h4 := h.2.1
        simp at h2; omega
/-- Sorted blocks, one behind the other. -/
structure Bks (lt : α → α → Prop) (pos : α → Nat) (L : List α) (Ls : List (List α)) : Prop where
  srt : ∀ S ∈ Ls, S.Pairwise lt
  ord : Ls.Pairwise fun S T => ∀ x ∈ S, ∀ y ∈ T, pos x < pos y
  perm : Ls.flatten.Perm L
/-- Two neighbours are merged. -/
theorem Bks.merge {L : List α} {Ds Rs : List (List α)} {A C S : List α} (h : Bks lt pos L (Ds ++ A :: C :: Rs)) (hp : S.Perm (A ++ C)) (hs : S.Pairwise lt) : Bks lt pos L (Ds ++ S :: Rs) := by
  have hm : ∀ x, x ∈ S ↔ x ∈ A ∨ x ∈ C := fun x => by rw [hp.mem_iff, List.mem_append]
  have ho := h.ord
  rw [List.pairwise_append] at ho
  obtain ⟨o1, o2, o3⟩ := ho
  have o4 := List.pairwise_cons.1 o2
  have o5 := List.pairwise_cons.1 o4.2
  refine ⟨fun T hT => ?_, ?_, ?_⟩
  · rcases List.mem_append.1 hT with hT | hT
    · exact h.srt T (by simp [hT])
    · rcases List.mem_cons.1 hT with rfl | hT
      · exact hs
      · exact h.srt T (by simp [hT])
  · rw [List.pairwise_append]
    refine ⟨o1, List.pairwise_cons.2 ⟨fun T hT x hx y hy => ?_, o5.2⟩, fun D hD T hT x hx y hy => ?_⟩
    · rcases (hm x).1 hx with hx | hx
      · exact o4.1 T (by simp [hT]) x hx y hy
      · exact o5.1 T hT x hx y hy
    · rcases List.mem_cons.1 hT with rfl | hT
      · rcases (hm y).1 hy with hy | hy
        · exact o3 D hD A (by simp) x hx y hy
        · exact o3 D hD C (by simp) x hx y hy
      · exact o3 D hD T (by simp [hT]) x hx y hy
  · refine List.Perm.trans ?_ h.perm
    simp only [List.flatten_append, List.flatten_cons]
    refine List.Perm.append_left _ ?_
    rw [← List.append_assoc]
    exact hp.append_right _
theorem Bks.mem {L : List α} {Ls : List (List α)} (h : Bks lt pos L Ls) {S : List α} (hS : S ∈ Ls) {x : α} (hx : x ∈ S) : x ∈ L := h.perm.mem_iff.1 (List.mem_flatten.2 ⟨S, hS, hx⟩)
/-- One block more is sorted. -/
theorem Bks.ins {L : List α} {Ls : List (List α)} {D S : List α} {E : List α} (hL : (L ++ (D ++ E)).Pairwise fun x y => pos x < pos y) (h : Bks lt pos L Ls) (hp : S.Perm D) (hs : S.Pairwise lt) : Bks lt pos (L ++ D) (Ls ++ [S]) := by
  rw [← List.append_assoc, List.pairwise_append] at hL
  have hLD := hL.1
  rw [List.pairwise_append] at hLD
  refine ⟨fun T hT => ?_, ?_, ?_⟩
  · rcases List.mem_append.1 hT with hT | hT
    · exact h.srt T hT
    · simp at hT; subst hT; exact hs
  · rw [List.pairwise_append]
    refine ⟨h.ord, List.pairwise_singleton _ _, fun T hT T2 hT2 x hx y hy => ?_⟩
    simp at hT2; subst hT2
    exact hLD.2.2 x (h.mem hT hx) y (hp.mem_iff.1 hy)
  · rw [List.flatten_append]
    simp only [List.flatten_cons, List.flatten_nil, List.append_nil]
    exact h.perm.append hp

end
end Go.Proofs.YtmfohnchnbgbaaaGreat

/- Sorting: a slice of numbers is sorted, block by block. -/
namespace Go.Proofs.YtmfohnchnbgbaaaGreat
open Go.RowKit
section
variable {α : Type} {val : α → Stp} {w0 : World} {B g n cap : Nat} {lt : α → α → Prop} {pos : α → Nat} {U : α → Prop} {cf : α → α → Int}
theorem insS_none (a : Nat) (f : Value) (w : World) (ha : a ≤ 1000000) : Calls Tryz.prog 174 #[.slice (some ⟨g, 0, none⟩) n cap, .int .i64 a, .int .i64 a, f] w fun e w' => e = .returned (.tuple #[]) ∧ w' = w := by
  have h1 : ¬ (a : Int) + 1 < (a : Int) := by omega
  go_enter Tryz.func174, Tryz.ntmps174
  go_wp2_with fail
  go_loop [8] (fun i => i = .int .i64 ((a : Int) + 1)) (fun _ => 0)
  case atStart => rfl
  case round =>
    subst hrel
    go_wp2_with fail
    go_end0
    exact ⟨rfl, rfl⟩
set_option maxRecDepth 100000 in
set_option maxHeartbeats 8000000 in
theorem stableCS_any (hc : CmpS val lt pos U cf) (L : List α) (hL : L.Pairwise fun x y => pos x < pos y) (hU : ∀ x ∈ L, U x) (hLn : L.length = n) (hn : n ≤ 1000000) (w : World) (hs : SrtS val w0 B g n cap L w) :
    Calls Tryz.prog 118 #[.slice (some ⟨g, 0, none⟩) n cap, .int .i64 n, .func (.func 63) #[] #[]] w (SymS val lt w0 B g n cap [] L []) := by
  have HS := hide hs
  have HC := hide hc
  have HL := hide hL
  have HU := hide hU
  have HLN := hide hLn
  clear hs hc hL hU hLn
  go_enter Tryz.func118, Tryz.ntmps118
  go_wp2_with fail
  go_loopw [7, 8] (fun q1 q2 wr => ∃ (a b : Nat) (Ls : List (List α)), q1 = .int .i64 a ∧ q2 = .int .i64 b ∧ b = a + 20 ∧ a ≤ n ∧ Hid (a ≤ n ∧ Ls.flatten.length = a ∧ (∀ S ∈ Ls, S.length = 20) ∧ Bks lt pos (L.take a) Ls) ∧ SrtS val w0 B g n cap (Ls.flatten ++ L.drop a) wr) (fun _ q _ => n + 1 - (RowKit.intOf q).toNat)
  case atStart => exact ⟨0, 20, [], rfl, rfl, rfl, Nat.zero_le _, hide ⟨Nat.zero_le _, rfl, by simp, ⟨by simp, by simp, by simp⟩⟩, by simpa using HS.out⟩
  case round =>
    obtain ⟨a, b, Ls, rfl, rfl, hab, han, hst, hr⟩ := hrel
    have HR := hide hr
    have HAB := hide hab
    by_cases hlt : b ≤ n
    · have hz1 : (b : Int) ≤ (n : Int) := by omega
      have hd1 : decide (b ≤ n) = true := by simp; omega
      have hdl : ((L.drop a).take 20).length = 20 := by rw [List.length_take, List.length_drop, HLN.out]; omega
      have hsplit : L.drop a = (L.drop a).take 20 ++ L.drop b := by rw [hab, ← List.drop_drop]; exact (List.take_append_drop 20 _).symm
      have htk : L.take b = L.take a ++ (L.drop a).take 20 := by rw [hab, List.take_add]
      have hpd : ((L.drop a).take 20).Pairwise fun x y => pos x < pos y := (HL.out.sublist (List.drop_sublist a L)).sublist (List.take_sublist 20 _)
      have hr2 := hr
      rw [hsplit] at hr2
      have hins := insS_any HC.out Ls.flatten ((L.drop a).take 20) (L.drop b) a b hst.out.2.1.symm (by omega) hpd (fun x hx => HU.out x (List.mem_of_mem_drop (List.mem_of_mem_take hx))) (by omega) wr hr2
      have HINS := hide hins
      have HTK := hide htk
      have HDL := hide hdl
      have hLL : (L.take a ++ ((L.drop a).take 20 ++ L.drop b)).Pairwise fun x y => pos x < pos y := by
        rw [← hsplit, List.take_append_drop]; exact HL.out
      have HLL := hide hLL
      have hb63 : (b : Int) ≤ 1000000 := by omega
      clear hr hr2 hsplit hins hpd htk hdl hLL hab
      go_wp2_with fail
      refine HINS.out.mono ?_
      rintro e w2 ⟨rfl, S, hp, hso, hr3⟩
      have HP := hide hp
      have HSO := hide hso
      have HR3 := hide hr3
      clear hp hso hr3
      go_wp2_with fail
      go_roundw
      case rel => exact ⟨b, b + 20, Ls ++ [S], rfl, by go_num, rfl, hlt, hide ⟨hlt, by
          have := HP.out.length_eq; have := HDL.out; have := hst.out.2.1; have := HAB.out
          rw [List.flatten_append, List.length_append, List.flatten_cons, List.flatten_nil, List.append_nil]; omega, fun T hT => by
          rcases List.mem_append.1 hT with hT | hT
          · exact hst.out.2.2.1 T hT
          · simp at hT; subst hT; rw [HP.out.length_eq]; exact HDL.out, by rw [HTK.out]; exact hst.out.2.2.2.ins HLL.out HP.out HSO.out⟩, by
          have := HR3.out
          simpa using this⟩
      case measure => simp [RowKit.intOf]; omega
    · have hz1 : ¬ (b : Int) ≤ (n : Int) := by omega
      have hd1 : decide (b ≤ n) = false := by simp; omega
      have hlast : Calls Tryz.prog 174 #[.slice (some ⟨g, 0, none⟩) n cap, .int .i64 a, .int .i64 n, .func (.func 63) #[] #[]] wr fun e w' => e = .returned (.tuple #[]) ∧ ∃ Ls' : List (List α), Bks lt pos L Ls' ∧ Lens 20 Ls' ∧ SrtS val w0 B g n cap Ls'.flatten w' := by
        by_cases hne : a = n
        · subst hne
          refine (insS_none a _ wr hn).mono ?_
          rintro e w' ⟨rfl, rfl⟩
          refine ⟨rfl, Ls, ?_, ?_, ?_⟩
          · have := hst.out.2.2.2
            rwa [List.take_of_length_le (by rw [HLN.out]; exact Nat.le_refl _)] at this
          · have := Lens.app (Ds := Ls) (Rs := []) hst.out.2.2.1 trivial (by omega)
            simpa using this
          · rw [List.drop_eq_nil_of_le (by rw [HLN.out]; exact Nat.le_refl _), List.append_nil] at hr
            exact hr
        · have hdl : (L.drop a).length = n - a := by rw [List.length_drop, HLN.out]
          have hpd : (L.drop a).Pairwise fun x y => pos x < pos y := HL.out.sublist (List.drop_sublist a L)
          have hins := insS_any HC.out Ls.flatten (L.drop a) [] a n hst.out.2.1.symm (by omega) hpd (fun x hx => HU.out x (List.mem_of_mem_drop hx)) (by omega) wr (by simpa using hr)
          refine hins.mono ?_
          rintro e w' ⟨rfl, S, hp, hso, hr3⟩
          refine ⟨rfl, Ls ++ [S], ?_, ?_, ?_⟩
          · have := hst.out.2.2.2.ins (E := []) (by rw [List.append_nil, List.take_append_drop]; exact HL.out) hp hso
            rwa [List.take_append_drop] at this
          · exact Lens.app hst.out.2.2.1 (show Lens 20 [S] from ⟨by rw [hp.length_eq]; omega, by rw [hp.length_eq]; omega⟩) (by omega)
          · simpa using hr3
      have HLA := hide hlast
      clear hr hab hlast
      go_wp2_with fail
      refine HLA.out.mono ?_
      rintro e w2 ⟨rfl, Ls2, hbk, hlen, hr3⟩
      have HBK := hide hbk
      have HLE := hide hlen
      have HR3 := hide hr3
      clear hbk hlen hr3
      go_wp2_with fail
      go_loopw [6] (fun q wr => ∃ (bs : Nat) (Ls : List (List α)), q = .int .i64 bs ∧ 20 ≤ bs ∧ bs ≤ 2 * n + 20 ∧ Hid (Bks lt pos L Ls ∧ Lens bs Ls) ∧ SrtS val w0 B g n cap Ls.flatten wr) (fun q _ => n - (RowKit.intOf q).toNat)
      case atStart => exact ⟨20, Ls2, rfl, Nat.le_refl _, by omega, hide ⟨HBK.out, HLE.out⟩, HR3.out⟩
      case round =>
        obtain ⟨bs, Ls3, rfl, hb20, hbn, hst3, hr⟩ := hrel
        have HR4 := hide hr
        rename World => W0
        by_cases hlt2 : bs < n
        · have hz2 : (bs : Int) < (n : Int) := by omega
          have hd2 : decide (bs < n) = true := by simp; omega
          have hbs63 : (bs : Int) ≤ 1000000 := by omega
          clear hr
          go_wp2_with fail
          go_loopw [7, 8] (fun q1 q2 ws => ∃ (a b : Nat) (Ds Rs : List (List α)), q1 = .int .i64 a ∧ q2 = .int .i64 b ∧ a ≤ n ∧ Hid (b = a + 2 * bs ∧ Ds.flatten.length = a ∧ (∀ D ∈ Ds, D.length = 2 * bs) ∧ Bks lt pos L (Ds ++ Rs) ∧ Lens bs Rs) ∧ SrtS val w0 B g n cap (Ds.flatten ++ Rs.flatten) ws) (fun _ q _ => n + 1 - (RowKit.intOf q).toNat)
          case atStart => exact ⟨0, 2 * bs, [], Ls3, rfl, by go_num, Nat.zero_le _, hide ⟨by omega, rfl, by simp, hst3.out.1, hst3.out.2⟩, by simpa using HR4.out⟩
          case round =>
            obtain ⟨a2, b2, Ds, Rs, rfl, rfl, ha2n, hin, hr⟩ := hrel
            have HR5 := hide hr
            have hfl : Ds.flatten.length + Rs.flatten.length = n := by
              have := hin.out.2.2.2.1.perm.length_eq
              rw [List.flatten_append, List.length_append, HLN.out] at this
              exact this
            obtain ⟨m, hm⟩ : ∃ m, a2 + bs = m := ⟨_, rfl⟩
            have hmz : (a2 : Int) + (bs : Int) = (m : Int) := by omega
            have hm63 : (m : Int) ≤ 2000000 := by omega
            have HM := hide hm
            have HFL := hide hfl
            have hb2 : b2 = a2 + 2 * bs := hin.out.1
            by_cases hlt3 : b2 ≤ n
            · have hz3 : (b2 : Int) ≤ (n : Int) := by omega
              have hd3 : decide (b2 ≤ n) = true := by simp; omega
              obtain ⟨A, C, Rs', hRs, hA, hCl, hle'⟩ := hin.out.2.2.2.2.two (by omega) (by have := hin.out.2.1; omega)
              have hbk := hin.out.2.2.2.1
              rw [hRs] at hbk
              have ho := hbk.ord
              rw [List.pairwise_append] at ho
              have ho2 := List.pairwise_cons.1 ho.2.1
              have hr2 := hr
              rw [hRs] at hr2
              have hsy := symS_any HC.out (A.length + C.length) Ds.flatten A C Rs'.flatten a2 m b2 (Nat.le_refl _) hin.out.2.1.symm (by omega) (by omega) (by omega) (by omega) (hbk.srt A (by simp)) (hbk.srt C (by simp)) (ho2.1 C (by simp)) (fun x hx => HU.out x (hbk.mem (S := A) (by simp) hx)) (fun x hx => HU.out x (hbk.mem (S := C) (by simp) hx)) hn wr (by simpa using hr2)
              have HSY := hide hsy
              have HBK2 := hide hbk
              have HLL := hide (show A.length = bs ∧ C.length = bs ∧ Lens bs Rs' from ⟨hA, hCl, hle'⟩)
              have hb63 : (b2 : Int) ≤ 1000000 := by omega
              have HB2 := hide hb2
              clear hr hr2 hsy hbk ho ho2 hRs hA hCl hle' hfl hm hb2
              go_wp2_with fail
              refine HSY.out.mono ?_
              rintro e w3 ⟨rfl, S, hp, hso, hr6⟩
              have HP := hide hp
              have HSO := hide hso
              have HR6 := hide hr6
              clear hp hso hr6
              go_wp2_with fail
              go_roundw
              case rel => exact ⟨b2, b2 + 2 * bs, Ds ++ [S], Rs', rfl, by go_num, hlt3, hide ⟨rfl, by
                  have := HP.out.length_eq; have := HLL.out; have := hin.out.2.1; have := HB2.out
                  rw [List.flatten_append, List.length_append, List.flatten_cons, List.flatten_nil, List.append_nil]
                  simp only [List.length_append] at *
                  omega, fun D hD => by
                  rcases List.mem_append.1 hD with hD | hD
                  · exact hin.out.2.2.1 D hD
                  · simp at hD; subst hD
                    have := HP.out.length_eq; have := HLL.out
                    simp only [List.length_append] at *
                    omega, by
                  have := HBK2.out.merge HP.out HSO.out
                  simpa using this, HLL.out.2.2⟩, by
                  have := HR6.out
                  simpa using this⟩
              case measure => simp [RowKit.intOf]; omega
            · have hz3 : ¬ (b2 : Int) ≤ (n : Int) := by omega
              have hd3 : decide (b2 ≤ n) = false := by simp; omega
              have hRl := hin.out.2.2.2.2.less (by have := hin.out.2.1; omega)
              have hbs2 : (2 : Int) * (bs : Int) ≤ 4000000 := by omega
              by_cases hmn : m < n
              · have hz4 : (m : Int) < (n : Int) := by omega
                have hd4 : decide (m < n) = true := by simp; omega
                rcases hRl with (h0 | ⟨A, h0, -, hA⟩) | ⟨A, C, hRs, hA, hC1, hC2⟩
                · exfalso; rw [h0] at hfl; have := hin.out.2.1; simp only [List.flatten_nil, List.length_nil] at hfl; omega
                · exfalso; rw [h0] at hfl; have := hin.out.2.1; simp only [List.flatten_cons, List.flatten_nil, List.append_nil] at hfl; omega
                have hbk := hin.out.2.2.2.1
                rw [hRs] at hbk
                have ho := hbk.ord
                rw [List.pairwise_append] at ho
                have ho2 := List.pairwise_cons.1 ho.2.1
                have hr2 := hr
                rw [hRs] at hr2
                have hnn : n = m + C.length := by rw [hRs] at hfl; have := hin.out.2.1; simp only [List.flatten_cons, List.flatten_nil, List.append_nil, List.length_append] at hfl; omega
                have hsy := symS_any HC.out (A.length + C.length) Ds.flatten A C [] a2 m n (Nat.le_refl _) hin.out.2.1.symm (by omega) hnn (by omega) hC1 (hbk.srt A (by simp)) (hbk.srt C (by simp)) (ho2.1 C (by simp)) (fun x hx => HU.out x (hbk.mem (S := A) (by simp) hx)) (fun x hx => HU.out x (hbk.mem (S := C) (by simp) hx)) hn wr (by simpa using hr2)
                have HSY := hide hsy
                have HBK2 := hide hbk
                have HLL := hide (show A.length = bs ∧ 1 ≤ C.length ∧ C.length ≤ bs from ⟨hA, hC1, hC2⟩)
                clear hr hr2 hsy hbk ho ho2 hRs hA hC1 hC2 hfl hm hb2 hnn
                go_wp2_with fail
                refine HSY.out.mono ?_
                rintro e w3 ⟨rfl, S, hp, hso, hr6⟩
                have HP := hide hp
                have HSO := hide hso
                have HR6 := hide hr6
                clear hp hso hr6
                go_wp2_with fail
                go_roundw
                case rel => exact ⟨2 * bs, Ds ++ [S], by go_num, by omega, by omega, hide ⟨HBK2.out.merge HP.out HSO.out, Lens.app hin.out.2.2.1 (show Lens (2 * bs) [S] by
                    have := HP.out.length_eq; have := HLL.out
                    simp only [List.length_append] at *
                    exact ⟨by omega, by omega⟩) (by omega)⟩, by
                    have := HR6.out
                    simpa using this⟩
                case measure => simp [RowKit.intOf]; omega
              · have hz4 : ¬ (m : Int) < (n : Int) := by omega
                have hd4 : decide (m < n) = false := by simp; omega
                have hRl2 : Lens (2 * bs) Rs := by
                  rcases hRl with (h0 | ⟨A, h0, hA1, hA⟩) | ⟨A, C, hRs, hA, hC1, hC2⟩
                  · rw [h0]; trivial
                  · rw [h0]; exact ⟨hA1, by omega⟩
                  · exfalso; rw [hRs] at hfl; have := hin.out.2.1; simp only [List.flatten_cons, List.flatten_nil, List.append_nil, List.length_append] at hfl; omega
                have HRL := hide hRl2
                clear hr hfl hm hb2 hRl hRl2
                go_wp2_with fail
                go_roundw
                case rel => exact ⟨2 * bs, Ds ++ Rs, by go_num, by omega, by omega, hide ⟨hin.out.2.2.2.1, Lens.app hin.out.2.2.1 HRL.out (by omega)⟩, by
                    have := HR5.out
                    simpa using this⟩
                case measure => simp [RowKit.intOf]; omega
        · have hz2 : ¬ (bs : Int) < (n : Int) := by omega
          have hd2 : decide (bs < n) = false := by simp; omega
          clear hr
          go_wp2_with fail
          go_end0
          obtain ⟨hb, hl⟩ := hst3.out
          refine ⟨rfl, Ls3.flatten, hb.perm, ?_, by simpa using HR4.out⟩
          have hfl : Ls3.flatten.length = n := by rw [hb.perm.length_eq, HLN.out]
          rcases hl.less (by omega) with (rfl | ⟨A, rfl, -⟩) | ⟨A, C, rfl, h1, h2, -⟩
          · simp
          · simpa using hb.srt A (by simp)
          · simp at hfl; omega
end
end Go.Proofs.YtmfohnchnbgbaaaGreat

/- The order of changes, however many there are. -/
namespace Go.Proofs.YtmfohnchnbgbaaaGreat
open Go.RowKit

theorem nanC_any (n : Int) (w : World) : Calls Tryz.prog 176 #[.int .i64 n] w fun e w' => e = .returned (.bool false) ∧ w' = w := by
  go_enter Tryz.func176, Tryz.ntmps176
  go_wp2
  all_goals
    go_ret
    exact ⟨rfl, rfl⟩
def cmpI (x y : Int) : Int := if x < y then -1 else if y < x then 1 else 0
theorem cmp_any (x y : Int) (w : World) : Calls Tryz.prog 120 #[.int .i64 x, .int .i64 y] w fun e w' => e = .returned (.int .i64 (cmpI x y)) ∧ w' = w := by
  have key : ∀ v, (v = cmpI x y) → (x < y ∧ v = -1 ∨ ¬ x < y ∧ y < x ∧ v = 1 ∨ ¬ x < y ∧ ¬ y < x ∧ v = 0) := by
    intro v hv
    unfold cmpI at hv
    split at hv
    · omega
    · split at hv <;> omega
  obtain ⟨v, hv⟩ : ∃ v, cmpI x y = v := ⟨_, rfl⟩
  have hk := key v hv.symm
  rw [hv]
  clear key hv
  rcases hk with ⟨h1, rfl⟩ | ⟨h1, h2, rfl⟩ | ⟨h1, h2, rfl⟩
  all_goals
    go_enter Tryz.func120, Tryz.ntmps120
    go_wp2_with fail
    refine (nanC_any x _).mono ?_
    rintro e w' ⟨rfl, rfl⟩
    go_wp2_with fail
    refine (nanC_any y _).mono ?_
    rintro e w' ⟨rfl, rfl⟩
    go_wp2_with fail
    go_ret
    exact ⟨rfl, rfl⟩
theorem sorted_unique {α : Type} {lt : α → α → Prop} (ha : ∀ x y, lt x y → ¬ lt y x) : ∀ {l l' : List α}, l.Perm l' → l.Pairwise lt → l'.Pairwise lt → l = l'
  | [], l', hp, _, _ => by rw [List.nil_perm.1 hp]
  | a :: r, [], hp, _, _ => by have := hp.length_eq; simp at this
  | a :: r, b :: s, hp, h1, h2 => by
    have h1' := List.pairwise_cons.1 h1
    have h2' := List.pairwise_cons.1 h2
    have hab : a = b := by
      have hb : b ∈ a :: r := hp.mem_iff.2 (by simp)
      have ha' : a ∈ b :: s := hp.mem_iff.1 (by simp)
      rcases List.mem_cons.1 hb with h | h
      · exact h.symm
      · rcases List.mem_cons.1 ha' with h3 | h3
        · exact h3
        · exact absurd (h2'.1 a h3) (ha _ _ (h1'.1 b h))
    subst hab
    rw [sorted_unique ha (List.Perm.cons_inv hp) h1'.2 h2'.2]

end Go.Proofs.YtmfohnchnbgbaaaGreat
