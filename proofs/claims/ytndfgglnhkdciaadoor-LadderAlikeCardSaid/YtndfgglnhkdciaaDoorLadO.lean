/- Years that are each so many times the first one's: what they become. -/
import Derived.Test.YtndfgglnhkdciaaDoorLadP
namespace Go.Proofs.YtndfgglnhkdciaaDoor
open Go.RowKit

def nthN (r : List Nat) (k : Nat) : Nat := r[k]?.getD 0
/-- The rows: of each year the beginning of r, m times. -/
def alikeC (r : List Nat) : List Nat → List (List Int)
  | [] => []
  | m :: ms => (r.take (ms.length + 1)).map (fun x => ((m * x : Nat) : Int)) :: alikeC r ms
theorem alikeC_len (r : List Nat) : ∀ ms, (alikeC r ms).length = ms.length
  | [] => rfl
  | m :: ms => by simp [alikeC, alikeC_len r ms]
theorem celN_alike {r : List Nat} {m n k : Nat} (hk : k < n) (hr : k < r.length) : celN ((r.take n).map (fun x => ((m * x : Nat) : Int))) k = m * nthN r k := by
  obtain ⟨x, hx⟩ := get_of hr
  rw [celN, List.getElem?_map, List.getElem?_take, if_pos hk, nthN, hx]
  simp only [Option.map_some, Option.getD_some]
  exact Int.toNat_natCast _
theorem colS_alike {r : List Nat} (k : Nat) (hk : k + 1 < r.length) : ∀ ms : List Nat, ms.length ≤ r.length → ∃ S, colS k (alikeC r ms) = (S * nthN r (k + 1), S * nthN r k) ∧ ((∀ m ∈ ms, 1 ≤ m) → k + 1 < ms.length → 1 ≤ S)
  | [], _ => ⟨0, by simp [alikeC, colS], fun _ h => by simp at h⟩
  | m :: ms, h => by
    simp only [List.length_cons] at h
    obtain ⟨S, hS, hp⟩ := colS_alike k hk ms (by omega)
    simp only [alikeC, colS, hS]
    have hl : ((r.take (ms.length + 1)).map (fun x => ((m * x : Nat) : Int))).length = ms.length + 1 := by rw [List.length_map, List.length_take]; omega
    rw [hl]
    split
    · rename_i hlt
      rw [celN_alike (by omega) hk, celN_alike (by omega) (by omega)]
      exact ⟨m + S, by rw [Nat.add_mul, Nat.add_mul], fun hm _ => by have := hm m (by simp); omega⟩
    · rename_i hlt
      exact ⟨S, rfl, fun _ h2 => by simp only [List.length_cons] at h2; omega⟩
theorem ev_exact {a n d q : Nat} (hd : 0 < d) (h : a * n = q * d) (hq : q ≤ 4000000000000000000) : evE a n d = 0 ∧ evQ a n d = q := by
  have h1 : evN a n d = q := by
    rw [evN, h, Nat.mul_div_cancel _ hd, Nat.mul_mod_left, upN, if_neg (by omega)]
  rw [evE, evQ, h1, if_pos hq, if_pos hq]
  exact ⟨rfl, rfl⟩
/-- The factors are those of r. -/
def Fits (r : List Nat) (F : List (Nat × Nat)) : Prop := F.length + 1 = r.length ∧ ∀ (k n d : Nat), F[k]? = some (n, d) → 0 < d ∧ n * nthN r k = nthN r (k + 1) * d
theorem grow_alike {r : List Nat} {F : List (Nat × Nat)} {m : Nat} (hF : Fits r F) (hb : ∀ k, m * nthN r k ≤ 4000000000000000000) : ∀ (t k : Nat), k + t = F.length → growN (m * nthN r k) (F.drop k) = (m * nthN r (r.length - 1), 0)
  | 0, k, h => by
    have : k = r.length - 1 := by have := hF.1; omega
    rw [List.drop_of_length_le (by omega), growN, this]
  | t + 1, k, h => by
    obtain ⟨⟨n, d⟩, hx⟩ := get_of (l := F) (k := k) (by omega)
    obtain ⟨hd, hc⟩ := hF.2 k n d hx
    obtain ⟨e1, e2⟩ := ev_exact (a := m * nthN r k) (n := n) (q := m * nthN r (k + 1)) hd (by rw [Nat.mul_assoc, Nat.mul_comm (nthN r k) n, hc, Nat.mul_assoc]) (hb (k + 1))
    rw [drop_of hx, growN]
    simp only [e1, e2, if_pos]
    exact grow_alike hF hb t (k + 1) (by omega)
theorem all_alike {r : List Nat} {F : List (Nat × Nat)} (hF : Fits r F) : ∀ ms : List Nat, ms.length ≤ r.length → (∀ m ∈ ms, ∀ k, m * nthN r k ≤ 4000000000000000000) → allN F (alikeC r ms) = (ms.map (fun m => m * nthN r (r.length - 1)), 0)
  | [], _, _ => by simp [alikeC, allN]
  | m :: ms, h, hb => by
    simp only [List.length_cons] at h
    have hl : ((r.take (ms.length + 1)).map (fun x => ((m * x : Nat) : Int))).length = ms.length + 1 := by rw [List.length_map, List.length_take]; omega
    have hg := grow_alike hF (hb m (by simp)) (F.length - ms.length) ms.length (by have := hF.1; omega)
    have ih := all_alike hF ms (by omega) (fun x hx => hb x (by simp [hx]))
    simp only [alikeC, allN]
    rw [hl, Nat.add_sub_cancel, celN_alike (by omega) (by omega), hg, ih]
    simp
theorem fits_alike {r ms : List Nat} (hn : ms.length = r.length) (h1 : 1 ≤ r.length) (h : (∀ m ∈ ms, 1 ≤ m) ∧ (∀ k, k < r.length → 1 ≤ nthN r k) ∨ (∀ k, k < r.length → nthN r k = 1)) : Fits r (facL (alikeC r ms)) := by
  refine ⟨by rw [facL_len, alikeC_len, hn]; omega, fun k n d hx => ?_⟩
  have hk := lt_of_get hx
  rw [facL_len, alikeC_len, hn] at hk
  rw [facL_get (by rw [alikeC_len, hn]; exact hk)] at hx
  obtain ⟨S, hS, hp⟩ := colS_alike (r := r) k (by omega) ms (by omega)
  rw [facK, hS] at hx
  simp only [Option.some.injEq] at hx
  split at hx
  · rename_i h0
    obtain ⟨rfl, rfl⟩ : 1 = n ∧ 1 = d := by simpa using hx
    rcases h with ⟨ha, hb⟩ | hc
    · have := Nat.mul_pos (hp ha (by omega)) (hb k (by omega))
      omega
    · rw [hc k (by omega), hc (k + 1) (by omega)]
      exact ⟨Nat.one_pos, rfl⟩
  · rename_i h0
    obtain ⟨rfl, rfl⟩ : S * nthN r (k + 1) = n ∧ S * nthN r k = d := by simpa using hx
    exact ⟨Nat.pos_of_ne_zero h0, by rw [Nat.mul_comm S (nthN r (k + 1)), Nat.mul_assoc]⟩
theorem alikeC_get (r : List Nat) : ∀ (ms : List Nat) (i m : Nat), ms[i]? = some m → (alikeC r ms)[i]? = some ((r.take (ms.length - i)).map (fun x => ((m * x : Nat) : Int)))
  | [], i, m, h => by simp at h
  | a :: ms, 0, m, h => by simp at h; subst h; simp [alikeC]
  | a :: ms, i + 1, m, h => by
    rw [alikeC, List.getElem?_cons_succ, alikeC_get r ms i m (by simpa using h), List.length_cons, Nat.add_sub_add_right]
theorem right_alike {r ms : List Nat} {f : Int} (hn : ms.length = r.length) (h1 : 1 ≤ r.length) (h20 : r.length ≤ 20) (hf : 1601 ≤ f ∧ f ≤ 2381) (hb : ∀ m ∈ ms, ∀ x ∈ r, m * x ≤ 100000000000000000) : rightC f (alikeC r ms) = true := by
  rw [rightC, Bool.and_eq_true, alikeC_len, hn]
  refine ⟨by simp only [boundsB, decide_eq_true_eq]; omega, ?_⟩
  rw [rowsB_iff]
  intro i l hl
  have hi := lt_of_get hl
  rw [alikeC_len] at hi
  obtain ⟨m, hm⟩ := get_of hi
  rw [alikeC_get r ms i m hm] at hl
  simp only [Option.some.injEq] at hl
  subst hl
  simp only [goodRow, Bool.and_eq_true, decide_eq_true_eq, List.all_eq_true, okV]
  refine ⟨by rw [List.length_map, List.length_take, hn]; omega, fun v hv => ?_⟩
  obtain ⟨x, hx, rfl⟩ := List.mem_map.1 hv
  have h2 := hb m (List.mem_of_getElem? hm) x (List.mem_of_mem_take hx)
  omega
theorem nthN_le {r : List Nat} {m b : Nat} (h : ∀ x ∈ r, m * x ≤ b) (k : Nat) : m * nthN r k ≤ b := by
  rw [nthN]
  rcases Nat.lt_or_ge k r.length with hk | hk
  · obtain ⟨x, hx⟩ := get_of hk
    rw [hx]
    exact h x (List.mem_of_getElem? hx)
  · rw [List.getElem?_eq_none hk]
    simp
/-- What such years become. -/
theorem ult_alike {r ms : List Nat} {f : Int} (hn : ms.length = r.length) (h1 : 1 ≤ r.length) (h20 : r.length ≤ 20) (hf : 1601 ≤ f ∧ f ≤ 2381) (hb : ∀ m ∈ ms, ∀ x ∈ r, m * x ≤ 100000000000000000)
    (h : (∀ m ∈ ms, 1 ≤ m) ∧ (∀ k, k < r.length → 1 ≤ nthN r k) ∨ (∀ k, k < r.length → nthN r k = 1)) :
    ultC f (alikeC r ms) = (ms.map (fun m => m * nthN r (r.length - 1)), 0) := by
  rw [ultC, if_pos (right_alike hn h1 h20 hf hb)]
  exact all_alike (fits_alike hn h1 h) ms (by omega) (fun m hm k => Nat.le_trans (nthN_le (hb m hm) k) (by omega))
/-- What is left of years that do not change. -/
theorem diag_still {n : Nat} : ∀ ms : List Nat, ms.length ≤ n → (alikeC (List.replicate n 1) ms).map lastI = castL ms
  | [], _ => rfl
  | m :: ms, h => by
    simp only [List.length_cons] at h
    rw [alikeC, List.map_cons, diag_still ms (by omega), castL, castL, List.map_cons]
    congr 1
    rw [List.take_replicate, Nat.min_eq_left (by omega), List.map_replicate, Nat.mul_one, lastI, List.getLast?_replicate]
    simp
theorem nth_one {n k : Nat} (h : k < n) : nthN (List.replicate n 1) k = 1 := by
  rw [nthN, List.getElem?_replicate, if_pos h]
  rfl
theorem still_all {ms : List Nat} {f : Int} (h1 : 1 ≤ ms.length) (h20 : ms.length ≤ 20) (hf : 1601 ≤ f ∧ f ≤ 2381) (hb : ∀ m ∈ ms, m ≤ 100000000000000000) :
    ultC f (alikeC (List.replicate ms.length 1) ms) = (ms, 0) ∧ lefts (castL ms) (diagL f (alikeC (List.replicate ms.length 1) ms)) = ms.map (fun _ => 0) := by
  have hl : (List.replicate ms.length 1).length = ms.length := List.length_replicate
  have hb2 : ∀ m ∈ ms, ∀ x ∈ List.replicate ms.length 1, m * x ≤ 100000000000000000 := fun m hm x hx => by
    rw [List.eq_of_mem_replicate hx, Nat.mul_one]; exact hb m hm
  have hu := ult_alike (r := List.replicate ms.length 1) (ms := ms) (f := f) hl.symm (by omega) (by omega) hf hb2 (.inr (fun k hk => nth_one (by omega)))
  have hr := right_alike (r := List.replicate ms.length 1) (ms := ms) (f := f) hl.symm (by omega) (by omega) hf hb2
  refine ⟨?_, ?_⟩
  · rw [hu, hl, nth_one (by omega)]
    simp
  · rw [diagL, if_pos hr, diag_still ms (Nat.le_refl _), lefts, castL, List.zipWith_map, List.zipWith_self]
    simp
end Go.Proofs.YtndfgglnhkdciaaDoor
