/- Files: how they begin, the common example, one act more with its code known. -/
import Derived.Test.YtmeneojgdbjlnaaClaimOpen
import Derived.Test.YtmeneojgdbjlnaaClaimM
namespace Go.Proofs.Ytmeneojgdbjlnaa
open Go.RowKit

theorem sv_nil (w : World) : SV w 3 none 0 0 (([] : List Ac).map encAc) := ⟨Sl.nil_, rfl, Nat.le_refl _, by simp [maxLen], fun _ => rfl⟩

set_option maxHeartbeats 1000000 in
theorem open_any (c : Cl) (w : World) : Calls Try.prog 19 #[.agg #[.int .i64 c.id, .int .i64 c.pol, .int .i64 c.per, .int .i64 c.loss, .int .i64 c.bkd, .int .i64 c.ev]] w
    fun e w' => e = .returned (.agg #[.int .i64 c.id, .int .i64 c.pol, .int .i64 c.per, .int .i64 c.loss, .int .i64 c.bkd, .int .i64 c.ev, .slice none 0 0]) ∧ Below w.heap.size w w' := by
  go_enter Try.func19, Try.ntmps19
  go_wp2_with fail
  exact ret_row (p := 2) (ty := 32) (g := w.heap.size + 1) (t := 32) rfl rfl rfl (Blk.new' (w := w.alloc _) (by simp)) Try.underlying32 rfl (by kernel_rfl) ⟨rfl, ((Below.refl _ _).alloc (Nat.le_refl _) _).alloc (by simp) _⟩
set_option maxHeartbeats 1000000 in
theorem openR_any (c : Cl) (w : World) : Calls Try.prog 20 #[.agg #[.int .i64 c.id, .int .i64 c.pol, .int .i64 c.per, .int .i64 c.loss, .int .i64 c.bkd, .int .i64 c.ev]] w
    fun e w' => e = .returned (.agg #[.int .i64 c.id, .int .i64 c.pol, .int .i64 c.per, .int .i64 c.loss, .int .i64 c.bkd, .int .i64 c.ev, .slice none 0 0]) ∧ Below w.heap.size w w' := by
  go_enter Try.func20, Try.ntmps20
  go_wp2_with fail
  exact ret_row (p := 2) (ty := 32) (g := w.heap.size + 1) (t := 32) rfl rfl rfl (Blk.new' (w := w.alloc _) (by simp)) Try.underlying32 rfl (by kernel_rfl) ⟨rfl, ((Below.refl _ _).alloc (Nat.le_refl _) _).alloc (by simp) _⟩

/-- A file with one act more. -/
def OkPost (w : World) (c : Cl) (l : List Ac) (n : Nat) (e : Ending) (w' : World) : Prop :=
  ∃ A' c', e = .returned (.tuple #[.agg #[.int .i64 c.id, .int .i64 c.pol, .int .i64 c.per, .int .i64 c.loss, .int .i64 c.bkd, .int .i64 c.ev, .slice A' n c'], .int .i64 0]) ∧ SV w' 3 A' n c' (l.map encAc) ∧ Below w.heap.size w w' ∧ ∀ kk, blk A' = some kk → w.heap.size ≤ kk
def NoPost (w : World) (code : Int) (e : Ending) (w' : World) : Prop :=
  e = .returned (.tuple #[.agg #[.int .i64 0, .int .i64 0, .int .i64 0, .int .i64 0, .int .i64 0, .int .i64 0, .slice none 0 0], .int .i64 code]) ∧ Below w.heap.size w w'
theorem put_ok {c : Cl} {A : Option Addr} {n cap : Nat} {l : List Ac} {b k m : Int} {w : World} (hv : SV w 3 A n cap (l.map encAc)) (hm : n ≤ 2000) (hc : putC c.bkd l ⟨b, k, m⟩ = 0) :
    Calls Try.prog 16 #[.agg #[.int .i64 c.id, .int .i64 c.pol, .int .i64 c.per, .int .i64 c.loss, .int .i64 c.bkd, .int .i64 c.ev, .slice A n cap], .agg #[.int .i64 b, .int .i64 k, .int .i64 m]] w (OkPost w c (l ++ [⟨b, k, m⟩]) (n + 1)) := by
  have hn : l.length = n := by have := hv.len; simpa using this
  subst hn
  refine (put_any c A cap l b k m w hv (by omega)).mono fun e w' ⟨hb, h⟩ => ?_
  rw [hc] at h
  rcases h with ⟨h, _⟩ | ⟨_, A', c', he, hs, hf⟩
  · exact absurd rfl h
  · exact ⟨A', c', he, hs, hb, hf⟩
theorem put_no {c : Cl} {A : Option Addr} {n cap : Nat} {l : List Ac} {b k m : Int} {w : World} {code : Int} (hv : SV w 3 A n cap (l.map encAc)) (hm : n ≤ 9223372036854775807) (hc : putC c.bkd l ⟨b, k, m⟩ = code) (h0 : code ≠ 0) :
    Calls Try.prog 16 #[.agg #[.int .i64 c.id, .int .i64 c.pol, .int .i64 c.per, .int .i64 c.loss, .int .i64 c.bkd, .int .i64 c.ev, .slice A n cap], .agg #[.int .i64 b, .int .i64 k, .int .i64 m]] w (NoPost w code) := by
  have hn : l.length = n := by have := hv.len; simpa using this
  subst hn
  refine (put_any c A cap l b k m w hv hm).mono fun e w' ⟨hb, h⟩ => ?_
  rw [hc] at h
  rcases h with ⟨_, he⟩ | ⟨h, _⟩
  · exact ⟨he, hb⟩
  · exact absurd h h0
theorem Stand_n {c : Cl} {A : Option Addr} {n cap : Nat} {l : List Ac} {w : World} {p : St} (hv : SV w 3 A n cap (l.map encAc)) (hm : n ≤ 9223372036854775807) (hp : standP l = p) :
    Calls Try.prog 22 #[.agg #[.int .i64 c.id, .int .i64 c.pol, .int .i64 c.per, .int .i64 c.loss, .int .i64 c.bkd, .int .i64 c.ev, .slice A n cap]] w
      fun e w' => e = .returned (.agg #[.int .i64 (max p.g p.s), .int .i64 p.s, .int .i64 0, .int .i64 p.b, .int .i64 0, .bool p.o]) ∧ Below w.heap.size w w' := by
  have hn : l.length = n := by have := hv.len; simpa using this
  subst hn; subst hp
  exact Stand_any c A cap l w hv.sl hm

def awC : Cl := ⟨1, 1, 0, 5, 7, 0⟩
theorem aw1 : putC 7 [] ⟨7, 1, 500⟩ = 0 := by decide +kernel
theorem aw2 : putC 7 [⟨7, 1, 500⟩] ⟨8, 2, 200⟩ = 0 := by decide +kernel
theorem aw3 : putC 7 [⟨7, 1, 500⟩, ⟨8, 2, 200⟩] ⟨8, 4, 0⟩ = 0 := by decide +kernel
theorem aw4 : putC 7 [⟨7, 1, 500⟩, ⟨8, 2, 200⟩, ⟨8, 4, 0⟩] ⟨9, 2, 1⟩ = 10 := by decide +kernel
theorem st_ext {p : St} {g s b : Int} {o : Bool} (h1 : p.g = g) (h2 : p.s = s) (h3 : p.b = b) (h4 : p.o = o) : p = ⟨g, s, b, o⟩ := by cases p; simp_all
theorem aw5 : standP [⟨7, 1, 500⟩, ⟨8, 2, 200⟩, ⟨8, 4, 0⟩] = ⟨500, 200, 0, false⟩ := st_ext (by decide +kernel) (by decide +kernel) (by decide +kernel) (by decide +kernel)
theorem aw6 : formedB awC = true := by decide
set_option maxRecDepth 100000 in
set_option maxHeartbeats 2000000 in
theorem awake_any (w : World) : Calls Try.prog 10 #[] w fun e w' => e = .returned (.bool true) ∧ Below w.heap.size w w' := by
  go_enter Try.func10, Try.ntmps10
  go_wp2_with fail
  refine (open_any awC _).mono ?_
  rintro e w1 ⟨rfl, hb1⟩
  simp only [awC]
  go_wp2_with fail
  refine (put_ok (c := awC) (l := []) (sv_nil _) (by omega) aw1).mono ?_
  rintro e w2 ⟨A2, c2, rfl, hs2, hb2, _⟩
  have q0 := kept hb2 (b := w1.heap.size) (o := 0) (u := .int .i64 1) (by simp)
  have q1 := kept hb2 (b := w1.heap.size) (o := 1) (u := .int .i64 1) (by simp)
  have q2 := kept hb2 (b := w1.heap.size) (o := 2) (u := .int .i64 0) (by simp)
  have q3 := kept hb2 (b := w1.heap.size) (o := 3) (u := .int .i64 5) (by simp)
  have q4 := kept hb2 (b := w1.heap.size) (o := 4) (u := .int .i64 7) (by simp)
  have q5 := kept hb2 (b := w1.heap.size) (o := 5) (u := .int .i64 0) (by simp)
  have h2 := chain (hb1.alloc hb1.size _) hb2
  clear hb1 hb2
  simp only [awC]
  go_wp2_with fail
  refine (put_ok (c := awC) (l := [⟨7, 1, 500⟩]) (hs2.below ((Below.refl _ _).alloc (Nat.le_refl _) _)) (by omega) aw2).mono ?_
  rintro e w3 ⟨A3, c3, rfl, hs3, hb3, _⟩
  have h3 := chain (h2.alloc h2.size _) hb3
  have q0 := kept hb3 (kept ((Below.refl _ _).alloc (Nat.le_refl _) _) q0)
  have q1 := kept hb3 (kept ((Below.refl _ _).alloc (Nat.le_refl _) _) q1)
  have q2 := kept hb3 (kept ((Below.refl _ _).alloc (Nat.le_refl _) _) q2)
  have q3 := kept hb3 (kept ((Below.refl _ _).alloc (Nat.le_refl _) _) q3)
  have q4 := kept hb3 (kept ((Below.refl _ _).alloc (Nat.le_refl _) _) q4)
  have q5 := kept hb3 (kept ((Below.refl _ _).alloc (Nat.le_refl _) _) q5)
  clear h2 hb3 hs2
  simp only [awC]
  go_wp2_with fail
  refine (put_ok (c := awC) (l := [⟨7, 1, 500⟩, ⟨8, 2, 200⟩]) (hs3.below ((Below.refl _ _).alloc (Nat.le_refl _) _)) (by omega) aw3).mono ?_
  rintro e w4 ⟨A4, c4, rfl, hs4, hb4, _⟩
  have h4 := chain (h3.alloc h3.size _) hb4
  have q0 := kept hb4 (kept ((Below.refl _ _).alloc (Nat.le_refl _) _) q0)
  have q1 := kept hb4 (kept ((Below.refl _ _).alloc (Nat.le_refl _) _) q1)
  have q2 := kept hb4 (kept ((Below.refl _ _).alloc (Nat.le_refl _) _) q2)
  have q3 := kept hb4 (kept ((Below.refl _ _).alloc (Nat.le_refl _) _) q3)
  have q4 := kept hb4 (kept ((Below.refl _ _).alloc (Nat.le_refl _) _) q4)
  have q5 := kept hb4 (kept ((Below.refl _ _).alloc (Nat.le_refl _) _) q5)
  clear h3 hb4 hs3
  simp only [awC]
  go_wp2_with fail
  refine (put_no (c := awC) (l := [⟨7, 1, 500⟩, ⟨8, 2, 200⟩, ⟨8, 4, 0⟩]) (hs4.below ((Below.refl _ _).alloc (Nat.le_refl _) _)) (by omega) aw4 (by decide)).mono ?_
  rintro e w5 ⟨rfl, hb5⟩
  have h5 := chain (h4.alloc h4.size _) hb5
  have q0 := kept hb5 (kept ((Below.refl _ _).alloc (Nat.le_refl _) _) q0)
  have q1 := kept hb5 (kept ((Below.refl _ _).alloc (Nat.le_refl _) _) q1)
  have q2 := kept hb5 (kept ((Below.refl _ _).alloc (Nat.le_refl _) _) q2)
  have q3 := kept hb5 (kept ((Below.refl _ _).alloc (Nat.le_refl _) _) q3)
  have q4 := kept hb5 (kept ((Below.refl _ _).alloc (Nat.le_refl _) _) q4)
  have q5 := kept hb5 (kept ((Below.refl _ _).alloc (Nat.le_refl _) _) q5)
  have r0 := kept hb5 (b := w4.heap.size) (o := 0) (u := .int .i64 1) (by simp)
  have r1 := kept hb5 (b := w4.heap.size) (o := 1) (u := .int .i64 1) (by simp)
  have r2 := kept hb5 (b := w4.heap.size) (o := 2) (u := .int .i64 0) (by simp)
  have r3 := kept hb5 (b := w4.heap.size) (o := 3) (u := .int .i64 5) (by simp)
  have r4 := kept hb5 (b := w4.heap.size) (o := 4) (u := .int .i64 7) (by simp)
  have r5 := kept hb5 (b := w4.heap.size) (o := 5) (u := .int .i64 0) (by simp)
  have r6 := kept hb5 (b := w4.heap.size) (o := 6) (u := .slice A4 3 c4) (by simp)
  have hz := block_lt_of_cell r0
  have hz0 := block_lt_of_cell q0
  have hs5 := (hs4.below ((Below.refl _ _).alloc (Nat.le_refl _) _)).below hb5
  clear h4 hb5 hs4
  go_wp2_with fail
  refine (Stand_n (c := awC) (hs5.below ((Below.refl _ _).alloc (Nat.le_refl _) _)) (by omega) aw5).mono ?_
  rintro e w6 ⟨rfl, hb6⟩
  have h6 := chain (h5.alloc h5.size _) hb6
  have q0 := kept hb6 (kept ((Below.refl _ _).alloc (Nat.le_refl _) _) q0)
  have q1 := kept hb6 (kept ((Below.refl _ _).alloc (Nat.le_refl _) _) q1)
  have q2 := kept hb6 (kept ((Below.refl _ _).alloc (Nat.le_refl _) _) q2)
  have q3 := kept hb6 (kept ((Below.refl _ _).alloc (Nat.le_refl _) _) q3)
  have q4 := kept hb6 (kept ((Below.refl _ _).alloc (Nat.le_refl _) _) q4)
  have q5 := kept hb6 (kept ((Below.refl _ _).alloc (Nat.le_refl _) _) q5)
  have hz0 := block_lt_of_cell q0
  clear h5 hb6 hs5 r0 r1 r2 r3 r4 r5 r6 hz
  go_wp2_with fail
  refine (formed_any awC _).mono ?_
  rw [aw6]
  rintro e w7 ⟨rfl, hb7⟩
  go_wp2_with fail
  go_ret
  exact ⟨rfl, chain h6 hb7⟩
end Go.Proofs.Ytmeneojgdbjlnaa
