/- Contract: the reference's Store. -/
import Derived.Test.YtnddgpkljpjjbaaDoorStore
import Derived.Test.YtnddgpkljpjjbaaDoorSup7
import Derived.Test.YtnddgpkljpjjbaaDoorCopy
namespace Go.Proofs.YtnddgpkljpjjbaaDoor
open Go.RowKit
set_option linter.unusedVariables false
set_option linter.unusedSimpArgs false
set_option maxRecDepth 100000 in
set_option maxHeartbeats 4000000 in
theorem ref12_Store_ok (v : Value) (d : Disk) (p : Nat) (u : Value) (xs : List UInt8) (w : World) (hd : DiskRep w v d) (hk : d.ok = true) (hin : insideB d.stable.length p 16 = true) (hne : supGen d p ≠ 0) (hu : SlRep w u xs) (hx : xs.length ≤ 31) :
    Calls Tryd.prog 19 #[v, .int .i64 p, u] w (RetOps w (storeRes d p xs) (storeErr d p xs)) := by
  obtain ⟨s0, c0, rfl, _, _⟩ := hd.ex
  obtain ⟨a, c, rfl, _⟩ := hu.ex
  have hp : p + 16 ≤ d.stable.length := by simp [insideB] at hin; omega
  have hlen := (Disk.ok_get d hk).1
  have hl16 := supAll_length d p hp
  have HL := Lib.hid hl16
  have hse : storeErr d p xs = if supTop d p = 4294967295 then 11 else 0 := by
    rw [storeErr, hk, hin, if_neg (by simp), if_neg (by simpa using hne), if_neg (by omega)]; rfl
  have HSE := Lib.hid hse; clear hse
  have hsn : supNew d p ≤ 1 := by rw [supNew]; split <;> omega
  go_enter Tryd.func19, Tryd.ntmps19
  go_wp2_with (first
    | (go_at_call 33; refine (ref12_find _ d p _ (hd.below (below_alloc _ _)) hk hin).mono ?_; rintro e w1 ⟨_, h⟩; obtain ⟨l, pv, rfl, hl, hpv, hb1⟩ := h hne; clear h; obtain ⟨la, lc, rfl, hla, hl1, hl2, _⟩ := hl.ex; obtain ⟨pa, pc, rfl, _⟩ := hpv.ex; rw [hl16] at hl1 ⊢; clear hl16 hl hpv; have hB1 : Below w.heap.size w w1 := below_step (below_alloc _ _) hb1)
    | (go_at_call 28; refine (ref12_Capacity _).mono ?_; rintro e w2 ⟨rfl, rfl⟩))
  go_loopw [13, 14] (fun t i wr => ∃ k : Nat, k ≤ 16 ∧ i = .int .i64 k ∧ t = .int .u32 (topOf ((supAll d p).take k) 0) ∧ Below w.heap.size w wr ∧ Below w1.heap.size w1 wr)
    (fun _ i _ => 16 - (intOf i).toNat)
  case atStart => exact ⟨0, by omega, rfl, by simp [topOf], hB1, Below.refl _ _⟩
  case round =>
    obtain ⟨k, hkl, rfl, rfl, hBw, hb2⟩ := hrel
    by_cases hlt : k < 16
    · obtain ⟨s, hs'⟩ : ∃ s, (supAll d p)[k]? = some s := ⟨_, List.getElem?_eq_getElem (by rw [HL.out]; exact hlt)⟩
      obtain ⟨b', o', he, hsec⟩ := (hla.below hb2).sec hs'
      subst he
      obtain ⟨q0, q1, q2, q3, q4, q5, q6, q7⟩ := hsec
      have HK := Lib.hid hs'; clear hs'
      have hgl := gen_lt s
      have htl := topOf_lt ((supAll d p).take k) 0 (by omega)
      go_wp2_with (go_at_call 35; refine (ref12_Generation s _).mono ?_; rintro e w3 ⟨rfl, hb3⟩)
      go_roundw
      case rel => exact ⟨k + 1, by omega, by go_num, by rw [← topOf_snoc _ k s HK.out]; go_num, below_step hBw (by assumption), below_step hb2 (by assumption)⟩
      case measure => simp [intOf]; omega
    · obtain rfl : k = 16 := by omega
      have hT : (supAll d p).take 16 = supAll d p := List.take_of_length_le (by rw [HL.out]; omega)
      rw [hT]
      clear hT
      have hTT : supTop d p = topOf (supAll d p) 0 := rfl
      have hTl := supTop_lt d p
      rw [hTT] at hTl
      generalize topOf (supAll d p) 0 = T at hTT hTl ⊢
      by_cases hTm : T = 4294967295
      · subst hTm
        have HTT := Lib.hid hTT; clear hTT
        go_wp2
        go_ret2
        exact ret_st_nil (by rw [HSE.out, HTT.out]; rfl) (by decide) hBw
      · have t1 : ((T : Int) == 4294967295) = false := by rw [beq_eq_false_iff_ne]; omega
        have t2 : T + 1 < 4294967296 := by omega
        have hse0 : Hid (storeErr d p xs = 0) := Lib.hid (by rw [HSE.out, hTT, if_neg hTm])
        have HTT := Lib.hid hTT; clear hTT
        go_wp2_with (go_at_call 29; refine (copyOf8 (T + 1) _ xs _ t2 (hu.below hBw) hx).mono ?_; rintro e w3 ⟨g, cap, rfl, ho3, hb3⟩)
        go_ret2
        have hz : Below w.heap.size w w3 := below_step hBw hb3
        refine ⟨_, by rw [hse0.out]; rfl, ?_, hz.alloc hz.size _⟩
        rw [storeRes, if_pos hse0.out]
        have ho : storeOps d (p : Int).toNat xs = [⟨0, ↑p + 8 - 8 * ↑(supNew d p), copySecs (T + 1) xs⟩, ⟨1, 0, []⟩] := by
          rw [Int.toNat_natCast, storeOps, HTT.out, show (p : Int) + (8 - 8 * (supNew d p : Int)) = ↑p + 8 - 8 * ↑(supNew d p) from by omega]
        rw [ho]
        exact two_rep rfl ho3
theorem ref12_Store_find (v : Value) (d : Disk) (p : Int) (n : Int) (u : Value) (xs : List UInt8) (w : World) (hd : DiskRep w v d) (hn : n = 2 ∨ n = 9) (hf : ∀ w', DiskRep w' v d → Calls Tryd.prog 33 #[v, .int .i64 p] w' (RetNone5 w' n)) (he : storeErr d p xs = n) :
    Calls Tryd.prog 19 #[v, .int .i64 p, u] w (RetOps w (storeRes d p xs) (storeErr d p xs)) := by
  obtain ⟨s0, c0, rfl, _, _⟩ := hd.ex
  have hne : (n != 0) = true := by rcases hn with rfl | rfl <;> rfl
  have HF := Lib.hid hf; have HN := Lib.hid hn; have HE := Lib.hid he; clear hf hn he
  go_enter Tryd.func19, Tryd.ntmps19
  go_wp2_with (go_at_call 33; refine (HF.out _ (hd.below (below_alloc _ _))).mono ?_; rintro e w1 ⟨rfl, hb1⟩)
  go_ret2
  exact ret_st_nil HE.out (by rcases HN.out with rfl | rfl <;> decide) (below_step (below_alloc _ _) hb1)
set_option maxRecDepth 100000 in
set_option maxHeartbeats 4000000 in
theorem ref12_Store_long (v : Value) (d : Disk) (p : Nat) (u : Value) (xs : List UInt8) (w : World) (hd : DiskRep w v d) (hk : d.ok = true) (hin : insideB d.stable.length p 16 = true) (hne : supGen d p ≠ 0) (hu : SlRep w u xs) (hx : 31 < xs.length) :
    Calls Tryd.prog 19 #[v, .int .i64 p, u] w (RetOps w (storeRes d p xs) (storeErr d p xs)) := by
  obtain ⟨s0, c0, rfl, _, _⟩ := hd.ex
  obtain ⟨a, c, rfl, _⟩ := hu.ex
  have hse : storeErr d p xs = 5 := by
    rw [storeErr, hk, hin, if_neg (by simp), if_neg (by simpa using hne), if_pos hx]
  have HSE := Lib.hid hse; clear hse
  go_enter Tryd.func19, Tryd.ntmps19
  go_wp2_with (first
    | (go_at_call 33; refine (ref12_find _ d p _ (hd.below (below_alloc _ _)) hk hin).mono ?_; rintro e w1 ⟨_, h⟩; obtain ⟨l, pv, rfl, hl, hpv, hb1⟩ := h hne; clear h; obtain ⟨la, lc, rfl, hla, hl1, hl2, _⟩ := hl.ex; obtain ⟨pa, pc, rfl, _⟩ := hpv.ex; have hB1 : Below w.heap.size w w1 := below_step (below_alloc _ _) hb1)
    | (go_at_call 28; refine (ref12_Capacity _).mono ?_; rintro e w2 ⟨rfl, rfl⟩))
  go_ret2
  exact ret_st_nil HSE.out (by decide) hB1
theorem ref12_Store (v : Value) (d : Disk) (p : Int) (u : Value) (xs : List UInt8) (w : World) (hd : DiskRep w v d) (hp : -9223372036854775808 ≤ p ∧ p ≤ 9223372036854775807) (hu : SlRep w u xs) :
    Calls Tryd.prog 19 #[v, .int .i64 p, u] w (RetOps w (storeRes d p xs) (storeErr d p xs)) := by
  by_cases h1 : (d.ok && insideB d.stable.length p 16) = false
  · exact ref12_Store_find v d p 2 u xs w hd (.inl rfl) (fun w' h => ref12_find_none v d p w' h h1) (by rw [storeErr, if_pos h1])
  · simp only [Bool.not_eq_false, Bool.and_eq_true] at h1
    obtain ⟨hk, hin⟩ := h1
    obtain ⟨k, rfl⟩ : ∃ k : Nat, p = k := ⟨p.toNat, by simp [insideB] at hin; omega⟩
    by_cases h0 : supGen d k = 0
    · exact ref12_Store_find v d k 9 u xs w hd (.inr rfl) (fun w' h => (ref12_find v d k w' h hk hin).mono (fun e w'' h => h.1 h0)) (by rw [storeErr, hk, hin, if_neg (by simp), if_pos (by simpa using h0)])
    · by_cases hx : 31 < xs.length
      · exact ref12_Store_long v d k u xs w hd hk hin h0 hu hx
      · exact ref12_Store_ok v d k u xs w hd hk hin h0 hu (by omega)
end Go.Proofs.YtnddgpkljpjjbaaDoor
