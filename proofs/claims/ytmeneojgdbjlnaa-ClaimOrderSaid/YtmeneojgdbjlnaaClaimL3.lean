/- How a file stands, number by number. -/
import Derived.Test.YtmeneojgdbjlnaaClaimL2
namespace Go.Proofs.Ytmeneojgdbjlnaa
open Go.RowKit

theorem Stand_v {c : Cl} {A : Option Addr} {n cap : Nat} {l : List Ac} {w0 w1 w : World} {g s b M : Int} {o : Bool} (hs : SV w1 3 A n cap (l.map encAc)) (hg : Below w1.heap.size w1 w) (hb : Below w0.heap.size w0 w) (hm : n ≤ 9223372036854775807) (hp : standP l = ⟨g, s, b, o⟩) (hM : max g s = M) :
    Calls Try.prog 22 #[.agg #[.int .i64 c.id, .int .i64 c.pol, .int .i64 c.per, .int .i64 c.loss, .int .i64 c.bkd, .int .i64 c.ev, .slice A n cap]] w
      fun e w' => e = .returned (.agg #[.int .i64 M, .int .i64 s, .int .i64 0, .int .i64 b, .int .i64 0, .bool o]) ∧ Below w0.heap.size w0 w' ∧ Below w.heap.size w w' := by
  subst hM
  exact Stand_c hs hg hb hm hp
/-- What an act changes, kind by kind. -/
theorem adds {bkd : Int} {l : List Ac} {b k m g s bk : Int} {o : Bool} (hg : Good bkd l) (hp : standP l = ⟨g, s, bk, o⟩) (hc : putC bkd l ⟨b, k, m⟩ = 0) :
    (k = 1 ∧ standP (l ++ [⟨b, k, m⟩]) = ⟨m, s, bk, o⟩) ∨ (k = 2 ∧ standP (l ++ [⟨b, k, m⟩]) = ⟨g, s + m, bk, o⟩) ∨ (k = 3 ∧ standP (l ++ [⟨b, k, m⟩]) = ⟨g, s, bk + m, o⟩) ∨
    (k = 4 ∧ standP (l ++ [⟨b, k, m⟩]) = ⟨g, s, bk, false⟩) ∨ (k = 5 ∧ standP (l ++ [⟨b, k, m⟩]) = ⟨g, s, bk, true⟩) := by
  have h := (good_snoc hg hc).2
  obtain ⟨_, _, k1, k5, _⟩ := right_parts (putC_zero hc).1
  rw [hp] at h
  simp only at h k1 k5
  rcases (show k = 1 ∨ k = 2 ∨ k = 3 ∨ k = 4 ∨ k = 5 by omega) with rfl | rfl | rfl | rfl | rfl
  · exact .inl ⟨rfl, h⟩
  · exact .inr (.inl ⟨rfl, h⟩)
  · exact .inr (.inr (.inl ⟨rfl, h⟩))
  · exact .inr (.inr (.inr (.inl ⟨rfl, h⟩)))
  · exact .inr (.inr (.inr (.inr ⟨rfl, h⟩)))
end Go.Proofs.Ytmeneojgdbjlnaa
