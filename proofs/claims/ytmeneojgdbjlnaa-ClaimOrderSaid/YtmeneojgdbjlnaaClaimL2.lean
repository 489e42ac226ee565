/- The contracts of layer 18, with the slice read in one world and the base another. -/
import Derived.Test.YtmeneojgdbjlnaaClaimL
namespace Go.Proofs.Ytmeneojgdbjlnaa
open Go.RowKit

section
variable {c : Cl} {A : Option Addr} {n cap : Nat} {l : List Ac} {w0 w1 w : World}
theorem at_c {d : Int} {l' : List Ac} {m : Nat} (hs : SV w1 3 A n cap (l.map encAc)) (g : Below w1.heap.size w1 w) (hb : Below w0.heap.size w0 w) (hm : n ≤ 2000) (hl : atL d l = l') (hl' : l'.length = m) :
    Calls Try.prog 24 #[.agg #[.int .i64 c.id, .int .i64 c.pol, .int .i64 c.per, .int .i64 c.loss, .int .i64 c.bkd, .int .i64 c.ev, .slice A n cap], .int .i64 d] w (MadeB w0 w c l' m) := by
  subst hl
  exact (at_any (hs.below g) hm).mono fun _ _ h => made_b hb h hl'
theorem put_okc {b k m : Int} (hs : SV w1 3 A n cap (l.map encAc)) (g : Below w1.heap.size w1 w) (hb : Below w0.heap.size w0 w) (hm : n ≤ 2000) (hc : putC c.bkd l ⟨b, k, m⟩ = 0) :
    Calls Try.prog 16 #[.agg #[.int .i64 c.id, .int .i64 c.pol, .int .i64 c.per, .int .i64 c.loss, .int .i64 c.bkd, .int .i64 c.ev, .slice A n cap], .agg #[.int .i64 b, .int .i64 k, .int .i64 m]] w (OkB w0 w c (l ++ [⟨b, k, m⟩]) (n + 1)) :=
  (put_ok (hs.below g) hm hc).mono fun _ _ ⟨A', c', he, h1, h2, _⟩ => ⟨A', c', he, h1, from_base hb h2⟩
theorem put_noc {b k m code : Int} (hs : SV w1 3 A n cap (l.map encAc)) (g : Below w1.heap.size w1 w) (hb : Below w0.heap.size w0 w) (hm : n ≤ 9223372036854775807) (hc : putC c.bkd l ⟨b, k, m⟩ = code) (h0 : code ≠ 0) :
    Calls Try.prog 16 #[.agg #[.int .i64 c.id, .int .i64 c.pol, .int .i64 c.per, .int .i64 c.loss, .int .i64 c.bkd, .int .i64 c.ev, .slice A n cap], .agg #[.int .i64 b, .int .i64 k, .int .i64 m]] w (NoB w0 w code) :=
  (put_no (hs.below g) hm hc h0).mono fun _ _ ⟨he, h⟩ => ⟨he, from_base hb h⟩
theorem Stand_c {p : St} (hs : SV w1 3 A n cap (l.map encAc)) (g : Below w1.heap.size w1 w) (hb : Below w0.heap.size w0 w) (hm : n ≤ 9223372036854775807) (hp : standP l = p) :
    Calls Try.prog 22 #[.agg #[.int .i64 c.id, .int .i64 c.pol, .int .i64 c.per, .int .i64 c.loss, .int .i64 c.bkd, .int .i64 c.ev, .slice A n cap]] w
      fun e w' => e = .returned (.agg #[.int .i64 (max p.g p.s), .int .i64 p.s, .int .i64 0, .int .i64 p.b, .int .i64 0, .bool p.o]) ∧ Below w0.heap.size w0 w' ∧ Below w.heap.size w w' :=
  (Stand_n (hs.below g) hm hp).mono fun _ _ ⟨he, h⟩ => ⟨he, from_base hb h⟩
end
end Go.Proofs.Ytmeneojgdbjlnaa
