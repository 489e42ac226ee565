/- The triangle of years that are each so many times the first one's beginning: the document's Alike. -/
import Derived.Test.YtndfgglnhkdciaaDoorLadT
namespace Go.Proofs.YtndfgglnhkdciaaDoor
open Go.RowKit

theorem nthN_of {r : List Nat} {k x : Nat} (h : r[k]? = some x) : nthN r k = x := by rw [nthN, h]; rfl
set_option maxRecDepth 100000 in
set_option maxHeartbeats 4000000 in
theorem alike22_any (A0 B0 : Option Addr) (n c0 c1 : Nat) (r ms : List Nat) (w : World) (hs : SV w 1 A0 n c0 ((castL r).map encI)) (ht : SV w 1 B0 n c1 ((castL ms).map encI)) (hn1 : 1 ≤ n) (hn20 : n ≤ 20)
    (hr : ∀ x ∈ r, x ≤ 4294967296) (hm : ∀ m ∈ ms, m ≤ 65536) :
    Calls Tryd.prog 20 #[.slice A0 n c0, .slice B0 n c1] w
      fun e w' => (∃ A' R c', e = .returned (.agg #[.int .i64 2000, .slice A' n c']) ∧ MV w' A' n c' R ∧ allM R = alikeC r ms) ∧ Below w.heap.size w w' := by
  have HS := hide hs
  have HT := hide ht
  have HR := hide hr
  have HMS := hide hm
  have hle0 := hs.le
  have hle1 := ht.le
  have hmo0 := hs.most
  have hmo1 := ht.most
  unfold maxLen at hmo0 hmo1
  have hrl : r.length = n := by have := hs.len; rw [List.length_map, castL_len] at this; exact this
  have hml : ms.length = n := by have := ht.len; rw [List.length_map, castL_len] at this; exact this
  have HRL := hide hrl
  have HML := hide hml
  have hCl : (alikeC r ms).length = n := by rw [alikeC_len, hml]
  have hget : ∀ (i m : Nat), ms[i]? = some m → (alikeC r ms)[i]? = some ((r.take (n - i)).map (fun x => ((m * x : Nat) : Int))) := fun i m h => by rw [alikeC_get r ms i m h, hml]
  obtain ⟨C, hC⟩ : ∃ C, alikeC r ms = C := ⟨_, rfl⟩
  rw [hC] at hCl hget ⊢
  have HCL := hide hCl
  have HGET := hide hget
  clear hs ht hr hm hrl hml hCl hget hC
  go_enter Tryd.func20, Tryd.ntmps20
  go_wp2_with fail
  obtain ⟨wz, hwz⟩ : ∃ W, w.alloc (.cells #[.int .i64 0, .slice none 0 0] 24) = W := ⟨_, rfl⟩
  have sz : wz.heap.size = w.heap.size + 1 := by rw [← hwz]; simp
  have bz : Below w.heap.size w wz := by rw [← hwz]; exact (Below.refl _ _).alloc (Nat.le_refl _) _
  have kz : Blk wz w.heap.size 24 #[.int .i64 0, .slice none 0 0] := by rw [← hwz]; exact Blk.new _ _ _
  rw [hwz]
  obtain ⟨w2, hw2⟩ : ∃ W, wz.alloc (.cells #[.int .i64 2000, .slice none 0 0] 24) = W := ⟨_, rfl⟩
  obtain ⟨G, hG⟩ : ∃ G, w.heap.size + 1 = G := ⟨_, rfl⟩
  have hM0 : Mat w (G + 1) G 2000 [] none 0 w2 := ⟨by rw [← hw2, ← hG]; exact Blk.new' sz.symm, OwnS.nil_ _ _ _ _, fun r hr => by simp at hr, fun r hr => by simp at hr, Nat.lt_succ_self _, by omega, by rw [← hw2]; exact bz.alloc (by omega) _⟩
  have kz2 : Blk w2 w.heap.size 24 #[.int .i64 0, .slice none 0 0] := by rw [← hw2]; exact kz.alloc _
  rw [hw2, hG]
  have HM0 := hide hM0
  have HZ0 := hide kz2
  have hwG : w.heap.size < G := by omega
  clear hwz sz bz kz hw2 hG hM0 kz2
  go_loopw [7] (fun q wr => ∃ (i : Nat) (R : List Rw) (A : Option Addr) (cap : Nat), i ≤ n ∧ q = .int .i64 i ∧ R.length = i ∧ allM R = C.take i ∧ (∀ x ∈ R, ∀ kk, blk x.A = some kk → kk ≠ w.heap.size) ∧ Blk wr w.heap.size 24 #[.int .i64 0, .slice none 0 0] ∧ Mat w (G + 1) G 2000 R A cap wr) (fun q _ => n - (RowKit.intOf q).toNat)
  case atStart => exact ⟨0, [], none, 0, Nat.zero_le _, rfl, rfl, rfl, fun x hx => by simp at hx, HZ0.out, HM0.out⟩
  case round =>
    obtain ⟨i, R, A, cap, hi, rfl, hRl, hRC, hap0, hZ, hM⟩ := hrel
    have HAP0 := hide hap0
    clear hap0
    have HM := hide hM
    have HZ := hide hZ
    have HRLen := hide hRl
    have HRC := hide hRC
    by_cases hlt : i < n
    · obtain ⟨a, hv⟩ := get_of (l := ms) (k := i) (by rw [HML.out]; exact hlt)
      have HV := hide (HGET.out i a hv)
      have hau := HMS.out a (List.mem_of_getElem? hv)
      have HLV := hide (show (castL ms)[i]? = some (a : Int) by rw [castL, List.getElem?_map, hv]; rfl)
      obtain ⟨m, hm⟩ : ∃ m, n - i = m := ⟨_, rfl⟩
      have hmi : (n : Int) - (i : Int) = (m : Int) := by omega
      have hm1 : 1 ≤ m ∧ m ≤ 20 ∧ m ≤ n := by omega
      have hk0 : (0 : Int) ≤ (i : Int) := by omega
      have hk1 : (i : Int) < (n : Int) := by omega
      rw [hm] at HV
      clear hM hRl hRC hv hm hZ
      go_wp2_with fail
      go_loopw [8, 9] (fun t q ws => ∃ (k : Nat) (A' : Option Addr) (c' : Nat), k ≤ m ∧ q = .int .i64 k ∧ t = .slice A' k c' ∧ OwnS ws wr.heap.size 3 1 A' k c' (((r.take k).map (fun x => ((a * x : Nat) : Int))).map encI) ∧ Below wr.heap.size wr ws) (fun _ q _ => m - (RowKit.intOf q).toNat)
      case atStart => exact ⟨0, none, 0, Nat.zero_le _, rfl, rfl, OwnS.nil_ _ _ _ _, Below.refl _ _⟩
      case round =>
        obtain ⟨k, A', c', hk, rfl, rfl, hown, hbs⟩ := hrel
        have HO := hide hown
        have HBS := hide hbs
        by_cases hkl : k < m
        · have hM2 := HM.out.below hbs
          obtain ⟨b1, o1, rfl, hb1, y1⟩ := (HT.out.below hM2.bel).sl.i HLV.out
          obtain ⟨x, hx⟩ := get_of (l := r) (k := k) (by rw [HRL.out]; omega)
          have hxu := HR.out x (List.mem_of_getElem? hx)
          have hcx : (castL r)[k]? = some (x : Int) := by rw [castL, List.getElem?_map, hx]; rfl
          obtain ⟨b0, o0, rfl, hb0, y0⟩ := (HS.out.below hM2.bel).sl.i hcx
          obtain ⟨p, hp⟩ : ∃ p, a * x = p := ⟨_, rfl⟩
          have hpb : p ≤ 281474976710656 := by rw [← hp]; exact Nat.le_trans (Nat.mul_le_mul hau hxu) (by decide)
          have hmx : (a : Int) * (x : Int) = (p : Int) := by rw [← hp]; exact (Int.natCast_mul a x).symm
          have HT2 := hide (show (r.take (k + 1)).map (fun x => ((a * x : Nat) : Int)) = (r.take k).map (fun x => ((a * x : Nat) : Int)) ++ [(p : Int)] by rw [take_of hx, List.map_append, ← hp]; rfl)
          have hq0 : (0 : Int) ≤ (k : Int) := by omega
          have hq1 : (k : Int) < (m : Int) := by omega
          have hq2 : (k : Int) < (n : Int) := by omega
          have hsz := hbs.size
          clear hown hbs hM2 hx hcx hp
          go_wp2_with (at_builtin
                       refine wpList_app rfl (.tmp 34) (.tmp 41) 33 rfl elInt (A2 := some ⟨_, 0, none⟩) (news := [(p : Int)].map encI) rfl (HO.out.alloc _) rfl rfl ?_ (okI [(p : Int)]) ?_ ?_ ?_ ?_
                       · exact sl_of_blk (cs := #[.int .i64 (p : Int)]) (Blk.new _ _ _)
                       · (simp only [maxLen]; omega)
                       · omega
                       · (simp; try omega)
                       intro A2 c2 wb ho2 hg2 ha2
                       have HO2 := hide ho2
                       have H3 := hide ((HBS.out.alloc hsz _).grown hg2 (by simp; omega) (fun kk e => (HO.out.lt kk e).1))
                       clear ho2 hg2 ha2)
          go_roundw
          case rel => exact ⟨k + 1, A2, c2, by omega, by go_num, rfl, by rw [HT2.out, List.map_append]; exact HO2.out, H3.out⟩
          case measure => simp [RowKit.intOf]; omega
        · obtain rfl : k = m := by omega
          have hq1 : ¬ (k : Int) < (k : Int) := by omega
          have HM2 := hide (HM.out.below hbs)
          have HZ2 := hide (HZ.out.below hbs HZ.out.lt)
          have HLT := hide (fun kk (h : blk A' = some kk) => hown.lt kk h)
          have HGL := hide HM.out.o.lt
          have HOL := hide HM.out.own.lt
          have HSVR := hide hown.sv
          obtain ⟨Lr, hLr⟩ : ∃ Lr : List Int, (r.take k).map (fun x => ((a * x : Nat) : Int)) = Lr := ⟨_, rfl⟩
          have hLl : Lr.length = k := by rw [← hLr, List.length_map, List.length_take, HRL.out]; omega
          rw [hLr] at HSVR HV
          rw [← hLl] at HSVR
          have o1 := HM2.out.o.cell 1
          have u1 := HM2.out.o.frozen 1
          simp [triC] at o1
          have hGl := HM2.out.o.lt
          have hap : ∀ kk, blk A' = some kk → kk ≠ G ∧ blk A ≠ some kk := fun kk hkk => by
            have h1 := HLT.out kk hkk
            have h2 := HGL.out
            exact ⟨by omega, fun he => by have := (HOL.out kk he).2; omega⟩
          have hapz : ∀ y ∈ R ++ [(⟨A', Lr, c'⟩ : Rw)], ∀ kk, blk y.A = some kk → kk ≠ w.heap.size := fun y hy kk hkk => by
            rcases List.mem_append.1 hy with h | h
            · exact HAP0.out y h kk hkk
            · obtain rfl := List.mem_singleton.1 h
              have h1 := HLT.out kk hkk
              have h2 := HGL.out
              omega
          have HAPZ := hide hapz
          clear hapz
          have HAP := hide hap
          have HNW := hide (show [(⟨A', Lr, c'⟩ : Rw)].map encRw = [[.slice A' k c']] by simp [encRw, hLl])
          have HOK := hide (show RowsOk 1 [[Value.slice A' k c']] by rw [← HNW.out]; exact okRw [⟨A', Lr, c'⟩])
          have hLpos : 0 < Lr.length := by omega
          have HLL := hide hLl
          have hRle : R.length ≤ 20 := by have := HRLen.out; omega
          clear hown hbs hap hLr hLl
          go_wp2_with (at_builtin
                       refine wpList_app rfl (.tmp 44) (.tmp 46) 22 rfl elRow (B := G + 1) (rows := R.map encRw) (A2 := some ⟨_, 0, none⟩) (news := [[.slice A' k c']]) rfl (HM2.out.own.alloc _) rfl rfl ?_ HOK.out ?_ ?_ ?_ ?_
                       · exact sl_of_blk (cs := #[.slice A' k c']) (Blk.new _ _ _)
                       · (simp only [maxLen]; omega)
                       · omega
                       · (simp; try omega)
                       intro A2 c2 wb ho2 hg2 ha2
                       rw [← HNW.out] at ho2
                       have hP2 := HM2.out.step (r := ⟨A', Lr, c'⟩) ((Below.refl _ _).alloc (Nat.le_refl _) _) (HSVR.out.below ((Below.refl _ _).alloc (Nat.le_refl _) _)) hLpos HAP.out ho2 hg2 ha2
                       have HP2 := hide hP2
                       have HZ3 := hide ((Blk.grown (HZ2.out.alloc (.cells #[.slice A' k c'] 33)) hg2 (fun he => by have := (HM2.out.own.lt w.heap.size he.symm).1; omega)).far (p := ⟨G, 1, none⟩) (Nat.ne_of_lt hwG) (.slice A2 (R.length + 1) c2))
                       have hgo := Blk.grown ((HM2.out.below ((Below.refl _ _).alloc (Nat.le_refl _) (.cells #[.slice A' k c'] 33))).o) hg2 (fun he => by have := (HM2.out.own.lt G he.symm).1; omega)
                       have d6 := hgo.cell 1
                       have v6 := hgo.frozen 1
                       simp [triC] at d6
                       clear hP2 hgo ho2 hg2 ha2)
          go_roundw
          case rel => exact ⟨i + 1, R ++ [⟨A', Lr, c'⟩], A2, c2, by omega, by go_num, by rw [List.length_append, HRLen.out]; rfl, by rw [allM, List.map_append, take_of HV.out]; exact congrArg (· ++ [Lr]) HRC.out, HAPZ.out, HZ3.out, HP2.out⟩
          case measure => simp [RowKit.intOf]; omega
    · obtain rfl : i = n := by omega
      have hk1 : ¬ (i : Int) < (i : Int) := by omega
      rw [List.take_of_length_le (by rw [HCL.out]; exact Nat.le_refl _)] at hRC
      have o0 := hM.o.cell 0
      have o1 := hM.o.cell 1
      have z0 := hZ.cell 0
      have z1 := hZ.cell 1
      have t0 := hZ.frozen 0
      have t1 := hZ.frozen 1
      simp [triC] at o0 o1 z0 z1
      have HRC2 := hide hRC
      clear hM hRl hRC hZ
      go_wp2_with fail
      have h2 := (HZ.out.set_ 0 (.int .i64 2000)).set_ 1 (.slice A R.length cap)
      have hA : ∀ kk, blk A = some kk → kk ≠ w.heap.size := fun kk hk => by have := (HM.out.own.lt kk hk).1; omega
      have m0 := HM.out.mv
      have hmv : MV ((wr.setCell ⟨w.heap.size, 0, none⟩ (.int .i64 2000)).setCell ⟨w.heap.size, 1, none⟩ (.slice A R.length cap)) A R.length cap R :=
        ⟨(m0.sv.far (p := ⟨w.heap.size, 0, none⟩) hA _).far (p := ⟨w.heap.size, 1, none⟩) hA _, fun y hy => ((m0.rows y hy).far (p := ⟨w.heap.size, 0, none⟩) (HAP0.out y hy) _).far (p := ⟨w.heap.size, 1, none⟩) (HAP0.out y hy) _⟩
      have hbel := (HM.out.bel.setCell (p := ⟨w.heap.size, 0, none⟩) (Nat.le_refl _) (.int .i64 2000)).setCell (p := ⟨w.heap.size, 1, none⟩) (Nat.le_refl _) (.slice A R.length cap)
      have hRn := HRLen.out
      exact ret_row rfl rfl rfl h2 Tryd.underlying24 rfl (by kernel_rfl) ⟨⟨A, R, cap, by rw [← hRn]; rfl, by rw [← hRn]; exact hmv, HRC2.out⟩, hbel⟩
end Go.Proofs.YtndfgglnhkdciaaDoor
