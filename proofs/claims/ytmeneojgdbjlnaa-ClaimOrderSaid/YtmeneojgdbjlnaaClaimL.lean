/- The contracts of layer 18, from a world in which the arguments were read. -/
import Derived.Test.YtmeneojgdbjlnaaClaimAtR
import Derived.Deep.RegionHeld3
namespace Go.Proofs.Ytmeneojgdbjlnaa
open Go.RowKit

section
variable {c : Cl} {A : Option Addr} {n cap : Nat} {l : List Ac} {w0 w : World}
/-- A contract's Below, from the base on. -/
theorem from_base {w0 w w' : World} (hb : Below w0.heap.size w0 w) (h : Below w.heap.size w w') : Below w0.heap.size w0 w' ∧ Below w.heap.size w w' := ⟨chain hb h, h⟩
theorem Stand_b {p : St} (hs : SV w0 3 A n cap (l.map encAc)) (hb : Below w0.heap.size w0 w) (hm : n ≤ 9223372036854775807) (hp : standP l = p) :
    Calls Try.prog 22 #[.agg #[.int .i64 c.id, .int .i64 c.pol, .int .i64 c.per, .int .i64 c.loss, .int .i64 c.bkd, .int .i64 c.ev, .slice A n cap]] w
      fun e w' => e = .returned (.agg #[.int .i64 (max p.g p.s), .int .i64 p.s, .int .i64 0, .int .i64 p.b, .int .i64 0, .bool p.o]) ∧ Below w0.heap.size w0 w' ∧ Below w.heap.size w w' :=
  (Stand_n (hs.below hb) hm hp).mono fun _ _ ⟨he, h⟩ => ⟨he, from_base hb h⟩
theorem StandR_b {p : St} (hs : SV w0 3 A n cap (l.map encAc)) (hb : Below w0.heap.size w0 w) (hm : n ≤ 9223372036854775807) (hp : standP l = p) :
    Calls Try.prog 23 #[.agg #[.int .i64 c.id, .int .i64 c.pol, .int .i64 c.per, .int .i64 c.loss, .int .i64 c.bkd, .int .i64 c.ev, .slice A n cap]] w
      fun e w' => e = .returned (.agg #[.int .i64 (max p.g p.s), .int .i64 p.s, .int .i64 0, .int .i64 p.b, .int .i64 0, .bool p.o]) ∧ Below w0.heap.size w0 w' ∧ Below w.heap.size w w' := by
  have hn : l.length = n := by have := hs.len; simpa using this
  subst hn; subst hp
  exact (StandR_any c A cap l w (hs.below hb).sl hm).mono fun _ _ ⟨he, h⟩ => ⟨he, from_base hb h⟩
def MadeB (w0 w : World) (c : Cl) (l : List Ac) (n : Nat) (e : Ending) (w' : World) : Prop :=
  ∃ A' c', e = .returned (.agg #[.int .i64 c.id, .int .i64 c.pol, .int .i64 c.per, .int .i64 c.loss, .int .i64 c.bkd, .int .i64 c.ev, .slice A' n c']) ∧ SV w' 3 A' n c' (l.map encAc) ∧ Below w0.heap.size w0 w' ∧ Below w.heap.size w w'
theorem made_b {l' : List Ac} {m : Nat} {e : Ending} {w' : World} (hb : Below w0.heap.size w0 w) (h : MadePost w c l' e w') (hl : l'.length = m) : MadeB w0 w c l' m e w' := by
  subst hl
  obtain ⟨A', c', he, hs, hb'⟩ := h
  exact ⟨A', c', he, hs, from_base hb hb'⟩
theorem at_b {d : Int} {l' : List Ac} {m : Nat} (hs : SV w0 3 A n cap (l.map encAc)) (hb : Below w0.heap.size w0 w) (hm : n ≤ 2000) (hl : atL d l = l') (hl' : l'.length = m) :
    Calls Try.prog 24 #[.agg #[.int .i64 c.id, .int .i64 c.pol, .int .i64 c.per, .int .i64 c.loss, .int .i64 c.bkd, .int .i64 c.ev, .slice A n cap], .int .i64 d] w (MadeB w0 w c l' m) := by
  subst hl
  exact (at_any (hs.below hb) hm).mono fun _ _ h => made_b hb h hl'
theorem atR_b {d : Int} {l' : List Ac} {m : Nat} (hs : SV w0 3 A n cap (l.map encAc)) (hb : Below w0.heap.size w0 w) (hm : n ≤ 2000) (hl : atL d l = l') (hl' : l'.length = m) :
    Calls Try.prog 25 #[.agg #[.int .i64 c.id, .int .i64 c.pol, .int .i64 c.per, .int .i64 c.loss, .int .i64 c.bkd, .int .i64 c.ev, .slice A n cap], .int .i64 d] w (MadeB w0 w c l' m) := by
  subst hl
  exact (atR_any (hs.below hb) hm).mono fun _ _ h => made_b hb h hl'
theorem madeF_b {l' : List Ac} {m : Nat} (hs : SV w0 3 A n cap (l.map encAc)) (hb : Below w0.heap.size w0 w) (hm : n ≤ 100) (hl : madeL c.bkd l = l') (hl' : l'.length = m) :
    Calls Try.prog 21 #[.agg #[.int .i64 c.id, .int .i64 c.pol, .int .i64 c.per, .int .i64 c.loss, .int .i64 c.bkd, .int .i64 c.ev], .slice A n cap] w (MadeB w0 w c l' m) := by
  have hn : l.length = n := by have := hs.len; simpa using this
  subst hn
  subst hl
  exact (made_any c A cap l w (hs.below hb) hm).mono fun _ _ h => made_b hb h hl'
theorem same_b {A' : Option Addr} {cap' : Nat} {w1 w2 : World} (h1 : SV w1 3 A n cap (l.map encAc)) (g1 : Below w1.heap.size w1 w) (h2 : SV w2 3 A' n cap' (l.map encAc)) (g2 : Below w2.heap.size w2 w) (hb : Below w0.heap.size w0 w) (hm : n ≤ 9223372036854775807) :
    Calls Try.prog 18 #[.agg #[.int .i64 c.id, .int .i64 c.pol, .int .i64 c.per, .int .i64 c.loss, .int .i64 c.bkd, .int .i64 c.ev, .slice A n cap], .agg #[.int .i64 c.id, .int .i64 c.pol, .int .i64 c.per, .int .i64 c.loss, .int .i64 c.bkd, .int .i64 c.ev, .slice A' n cap']] w
      fun e w' => e = .returned (.bool true) ∧ Below w0.heap.size w0 w' ∧ Below w.heap.size w w' :=
  (same_n (h1.below g1) (h2.below g2) hm).mono fun _ _ ⟨he, h⟩ => ⟨he, from_base hb h⟩
def OkB (w0 w : World) (c : Cl) (l : List Ac) (n : Nat) (e : Ending) (w' : World) : Prop :=
  ∃ A' c', e = .returned (.tuple #[.agg #[.int .i64 c.id, .int .i64 c.pol, .int .i64 c.per, .int .i64 c.loss, .int .i64 c.bkd, .int .i64 c.ev, .slice A' n c'], .int .i64 0]) ∧ SV w' 3 A' n c' (l.map encAc) ∧ Below w0.heap.size w0 w' ∧ Below w.heap.size w w'
def NoB (w0 w : World) (code : Int) (e : Ending) (w' : World) : Prop :=
  e = .returned (.tuple #[.agg #[.int .i64 0, .int .i64 0, .int .i64 0, .int .i64 0, .int .i64 0, .int .i64 0, .slice none 0 0], .int .i64 code]) ∧ Below w0.heap.size w0 w' ∧ Below w.heap.size w w'
theorem put_okb {b k m : Int} (hs : SV w0 3 A n cap (l.map encAc)) (hb : Below w0.heap.size w0 w) (hm : n ≤ 2000) (hc : putC c.bkd l ⟨b, k, m⟩ = 0) :
    Calls Try.prog 16 #[.agg #[.int .i64 c.id, .int .i64 c.pol, .int .i64 c.per, .int .i64 c.loss, .int .i64 c.bkd, .int .i64 c.ev, .slice A n cap], .agg #[.int .i64 b, .int .i64 k, .int .i64 m]] w (OkB w0 w c (l ++ [⟨b, k, m⟩]) (n + 1)) :=
  (put_ok (hs.below hb) hm hc).mono fun _ _ ⟨A', c', he, h1, h2, _⟩ => ⟨A', c', he, h1, from_base hb h2⟩
theorem put_nob {b k m code : Int} (hs : SV w0 3 A n cap (l.map encAc)) (hb : Below w0.heap.size w0 w) (hm : n ≤ 9223372036854775807) (hc : putC c.bkd l ⟨b, k, m⟩ = code) (h0 : code ≠ 0) :
    Calls Try.prog 16 #[.agg #[.int .i64 c.id, .int .i64 c.pol, .int .i64 c.per, .int .i64 c.loss, .int .i64 c.bkd, .int .i64 c.ev, .slice A n cap], .agg #[.int .i64 b, .int .i64 k, .int .i64 m]] w (NoB w0 w code) :=
  (put_no (hs.below hb) hm hc h0).mono fun _ _ ⟨he, h⟩ => ⟨he, from_base hb h⟩
theorem putR_okb {b k m : Int} (hs : SV w0 3 A n cap (l.map encAc)) (hb : Below w0.heap.size w0 w) (ht : tameB l = true) (hc : putC c.bkd l ⟨b, k, m⟩ = 0) :
    Calls Try.prog 17 #[.agg #[.int .i64 c.id, .int .i64 c.pol, .int .i64 c.per, .int .i64 c.loss, .int .i64 c.bkd, .int .i64 c.ev, .slice A n cap], .agg #[.int .i64 b, .int .i64 k, .int .i64 m]] w (OkB w0 w c (l ++ [⟨b, k, m⟩]) (n + 1)) :=
  (putR_ok (hs.below hb) ht hc).mono fun _ _ ⟨A', c', he, h1, h2, _⟩ => ⟨A', c', he, h1, from_base hb h2⟩
theorem putR_nob {b k m code : Int} (hs : SV w0 3 A n cap (l.map encAc)) (hb : Below w0.heap.size w0 w) (ht : tameB l = true) (hc : putC c.bkd l ⟨b, k, m⟩ = code) (h0 : code ≠ 0) :
    Calls Try.prog 17 #[.agg #[.int .i64 c.id, .int .i64 c.pol, .int .i64 c.per, .int .i64 c.loss, .int .i64 c.bkd, .int .i64 c.ev, .slice A n cap], .agg #[.int .i64 b, .int .i64 k, .int .i64 m]] w (NoB w0 w code) :=
  (putR_no (hs.below hb) ht hc h0).mono fun _ _ ⟨he, h⟩ => ⟨he, from_base hb h⟩
theorem awake_b (hb : Below w0.heap.size w0 w) : Calls Try.prog 10 #[] w fun e w' => e = .returned (.bool true) ∧ Below w0.heap.size w0 w' ∧ Below w.heap.size w w' :=
  (awake_any w).mono fun _ _ ⟨he, h⟩ => ⟨he, from_base hb h⟩
theorem open_b (hb : Below w0.heap.size w0 w) : Calls Try.prog 19 #[.agg #[.int .i64 c.id, .int .i64 c.pol, .int .i64 c.per, .int .i64 c.loss, .int .i64 c.bkd, .int .i64 c.ev]] w
    fun e w' => e = .returned (.agg #[.int .i64 c.id, .int .i64 c.pol, .int .i64 c.per, .int .i64 c.loss, .int .i64 c.bkd, .int .i64 c.ev, .slice none 0 0]) ∧ Below w0.heap.size w0 w' ∧ Below w.heap.size w w' :=
  (open_any c w).mono fun _ _ ⟨he, h⟩ => ⟨he, from_base hb h⟩
theorem openR_b (hb : Below w0.heap.size w0 w) : Calls Try.prog 20 #[.agg #[.int .i64 c.id, .int .i64 c.pol, .int .i64 c.per, .int .i64 c.loss, .int .i64 c.bkd, .int .i64 c.ev]] w
    fun e w' => e = .returned (.agg #[.int .i64 c.id, .int .i64 c.pol, .int .i64 c.per, .int .i64 c.loss, .int .i64 c.bkd, .int .i64 c.ev, .slice none 0 0]) ∧ Below w0.heap.size w0 w' ∧ Below w.heap.size w w' :=
  (openR_any c w).mono fun _ _ ⟨he, h⟩ => ⟨he, from_base hb h⟩
end
end Go.Proofs.Ytmeneojgdbjlnaa
