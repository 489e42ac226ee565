/- Files with one act more: the last booking, a copy, and what is put, the program's and the document's. -/
import Derived.Test.YtmeneojgdbjlnaaClaimB2
import Derived.Test.YtmeneojgdbjlnaaApp
import Derived.WalkSpells
namespace Go.Proofs.Ytmeneojgdbjlnaa
open Go.RowKit

theorem elAc : ElT Try.prog 30 25 3 24 := ElT.mk' (z := .agg #[.int .i64 0, .int .i64 0, .int .i64 0]) Try.underlying30 (by kernel_rfl) rfl (by omega)
theorem okAc (l : List Ac) : RowsOk 3 (l.map encAc) := by
  intro r hr
  obtain ⟨x, _, rfl⟩ := List.mem_map.1 hr
  refine ⟨rfl, fun u hu => ?_⟩
  simp [encAc] at hu
  rcases hu with rfl | rfl | rfl <;> rfl

def lastB (bkd : Int) (l : List Ac) : Int := match l.getLast? with | some a => a.b | none => bkd

set_option maxHeartbeats 1000000 in
theorem last_any (c : Cl) (A : Option Addr) (cap : Nat) (l : List Ac) (w : World) (hl : Sl w w.heap.size 3 A (l.map encAc)) (hm : l.length ≤ 9223372036854775807) :
    Calls Try.prog 28 #[.agg #[.int .i64 c.id, .int .i64 c.pol, .int .i64 c.per, .int .i64 c.loss, .int .i64 c.bkd, .int .i64 c.ev, .slice A l.length cap]] w
      fun e w' => e = .returned (.int .i64 (lastB c.bkd l)) ∧ Below w.heap.size w w' := by
  rcases Nat.eq_zero_or_pos l.length with h0 | h0
  · have : l = [] := List.eq_nil_of_length_eq_zero h0
    subst this
    go_enter Try.func28, Try.ntmps28
    go_wp2
    go_ret
    exact ⟨rfl, (Below.refl _ _).alloc (Nat.le_refl _) _⟩
  · obtain ⟨⟨ab, ak, am⟩, hx⟩ := get_of (show l.length - 1 < l.length by omega)
    obtain ⟨bb, off, rfl, hbl, hc0, hc1, hc2⟩ := hl.ac hx
    have hla : lastB c.bkd l = ab := by
      unfold lastB
      rw [List.getLast?_eq_getElem?, hx]
    have HL := hide hla
    have hp : (0 : Int) < (l.length : Int) := by omega
    clear hla hx hl
    obtain ⟨n, hn⟩ : ∃ n, l.length = n + 1 := ⟨l.length - 1, by omega⟩
    rw [hn] at hc0 hc1 hc2 hm hp ⊢
    clear hn h0
    simp only [Nat.add_sub_cancel] at hc0 hc1 hc2
    go_enter Try.func28, Try.ntmps28
    go_wp2
    go_ret
    exact ⟨by rw [HL.out]; rfl, (Below.refl _ _).alloc (Nat.le_refl _) _⟩

/-- What a copy is: a slice of the call's own, with the same rows; nil of nil. -/
def ClonePost (w : World) (n : Nat) (rows : List (List Value)) (e : Ending) (w' : World) : Prop :=
  ∃ A' c', e = .returned (.slice A' n c') ∧ OwnS w' w.heap.size 25 3 A' n c' rows ∧ Below w.heap.size w w'

set_option maxHeartbeats 1000000 in
theorem clone_any (A : Option Addr) (n cap : Nat) (l : List Ac) (w : World) (hv : SV w 3 A n cap (l.map encAc)) (hbyte : n * 24 ≤ 140737488355328) :
    Calls Try.prog 29 #[.slice A n cap] w (ClonePost w n (l.map encAc)) := by
  have hq := fun (W : World) => Lib.run_eql_slice_nil (P := Try.prog) W 30 25 A n cap 0 0 Try.underlying30
  have hsl := hide hv.sl
  have hlen := hv.len
  have hle := hv.le
  have hmo := hv.most
  cases A with
  | none =>
    have hn : n = 0 := by have := hv.nil rfl; omega
    subst hn
    have hl0 : l.map encAc = [] := List.eq_nil_of_length_eq_zero hlen
    rw [hl0]
    clear hv hlen hle hmo hl0
    go_enter Try.func29, Try.ntmps29
    go_wp2
    go_ret
    exact ⟨none, 0, rfl, OwnS.nil_ _ _ _ _, Below.refl _ _⟩
  | some ad =>
    clear hv
    unfold maxLen at hmo
    go_enter Try.func29, Try.ntmps29
    go_wp2_with (at_builtin
                 refine wpList_app rfl (.tmp 5) (.tmp 6) 30 rfl elAc (B := w.heap.size) rfl (OwnS.lit w (Nat.le_refl _) 25 [] RowsOk.nil_ (by simp [maxLen]) #[] rfl) rfl hlen ?_ (okAc l) ?_ ?_ ?_ ?_
                 · exact (hsl.out.below ((Below.refl _ _).alloc (Nat.le_refl _) _)).more (by simp)
                 · simp only [maxLen]; omega
                 · omega
                 · simp
                 intro A1 c1 wa ho1 hg1 ha1
                 have hba : Below w.heap.size w wa := ((Below.refl _ _).alloc (Nat.le_refl _) _).grown hg1 (by simp) (fun k hk => by simp [blk] at hk; omega)
                 simp only [Nat.zero_add, List.nil_append] at ho1
                 clear hg1 ha1)
    go_ret
    exact ⟨A1, c1, by simp, ho1, hba⟩
end Go.Proofs.Ytmeneojgdbjlnaa
