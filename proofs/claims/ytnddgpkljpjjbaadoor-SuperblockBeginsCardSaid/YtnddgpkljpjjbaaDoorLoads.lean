/- law12.SuperblockLoads: Load and the reference's Load as one contract; the walk of the law. -/
import Derived.Test.YtnddgpkljpjjbaaDoorAwake
import Derived.Test.YtnddgpkljpjjbaaDoorSup7
import Derived.Test.YtnddgpkljpjjbaaDoorOpn
namespace Go.Proofs.YtnddgpkljpjjbaaDoor
open Go.RowKit
set_option linter.unusedVariables false
set_option linter.unusedSimpArgs false
def loadErr (d : Disk) (p : Int) : Int := if (d.ok && insideB d.stable.length p 16) = false then 2 else if supGen d p.toNat = 0 then 9 else 0
def loadPay (d : Disk) (p : Int) : List UInt8 := if loadErr d p = 0 then supPay d p.toNat else []
def loadGen (d : Disk) (p : Int) : Nat := if loadErr d p = 0 then supGen d p.toNat else 0
def RetLd (w : World) (d : Disk) (p : Int) (e : Ending) (w' : World) : Prop := ∃ v, e = .returned (.tuple #[v, .int .i64 (loadGen d p), .int .i64 (loadErr d p)]) ∧ SlRep w' v (loadPay d p) ∧ Below w.heap.size w w'
theorem ret_ld_none {w w' : World} {e : Ending} {d : Disk} {p n : Int} (hn : loadErr d p = n) (h0 : n ≠ 0) (h : RetNone3 w n e w') : RetLd w d p e w' := by
  obtain ⟨rfl, hb⟩ := h
  exact ⟨_, by rw [loadGen, hn, if_neg h0]; rfl, by rw [loadPay, hn, if_neg h0]; exact SlRep.nil _, hb⟩
theorem ret_ld_some {w w' : World} {e : Ending} {d : Disk} {p : Nat} (hn : loadErr d p = 0) (h : RetLoad w d p e w') : RetLd w d p e w' := by
  obtain ⟨v, rfl, hv, hb⟩ := h
  exact ⟨v, by rw [loadGen, hn, if_pos rfl, Int.toNat_natCast], by rw [loadPay, hn, if_pos rfl, Int.toNat_natCast]; exact hv, hb⟩
theorem sup_LoadA (v : Value) (d : Disk) (p : Int) (w : World) (hd : DiskRep w v d) : Calls Tryd.prog 15 #[v, .int .i64 p] w (RetLd w d p) := by
  by_cases h1 : (d.ok && insideB d.stable.length p 16) = false
  · exact (sup_Load_none v d p 2 w hd (.inl rfl) (fun w' h => sup_find_none v d p w' h h1)).mono (fun e w' => ret_ld_none (by rw [loadErr, if_pos h1]) (by decide))
  · have h1' := h1
    simp only [Bool.not_eq_false, Bool.and_eq_true] at h1
    obtain ⟨hk, hin⟩ := h1
    obtain ⟨k, rfl⟩ : ∃ k : Nat, p = k := ⟨p.toNat, by simp [insideB] at hin; omega⟩
    by_cases h0 : supGen d k = 0
    · exact (sup_Load_none v d k 9 w hd (.inr rfl) (fun w' h => sup_find_zero v d k w' h hk hin h0)).mono (fun e w' => ret_ld_none (by rw [loadErr, if_neg h1', if_pos (by simpa using h0)]) (by decide))
    · exact (sup_Load_some v d k w hd hk hin h0).mono (fun e w' => ret_ld_some (by rw [loadErr, if_neg h1', if_neg (by simpa using h0)]))
theorem ref12_LoadA (v : Value) (d : Disk) (p : Int) (w : World) (hd : DiskRep w v d) : Calls Tryd.prog 16 #[v, .int .i64 p] w (RetLd w d p) := by
  by_cases h1 : (d.ok && insideB d.stable.length p 16) = false
  · exact (ref12_Load_none v d p w hd h1).mono (fun e w' => ret_ld_none (by rw [loadErr, if_pos h1]) (by decide))
  · have h1' := h1
    simp only [Bool.not_eq_false, Bool.and_eq_true] at h1
    obtain ⟨hk, hin⟩ := h1
    obtain ⟨k, rfl⟩ : ∃ k : Nat, p = k := ⟨p.toNat, by simp [insideB] at hin; omega⟩
    refine (ref12_Load v d k w hd hk hin).mono (fun e w' h => ?_)
    by_cases h0 : supGen d k = 0
    · exact ret_ld_none (by rw [loadErr, if_neg h1', if_pos (by simpa using h0)]) (by decide) (h.1 h0)
    · exact ret_ld_some (by rw [loadErr, if_neg h1', if_neg (by simpa using h0)]) (h.2 h0)
theorem bytes_same (u v : Value) (xs : List UInt8) (w : World) (hu : SlRep w u xs) (hv : SlRep w v xs) :
    Calls Tryd.prog 17 #[u, v] w (RetB w (.bool true)) := by
  have := bytes_Equal u v xs xs w hu hv
  rwa [decide_eq_true (rfl : xs = xs)] at this
set_option maxRecDepth 100000 in
set_option maxHeartbeats 2000000 in
theorem law_loads (v : Value) (d : Disk) (p : Int) (w : World) (hd : DiskRep w v d) (hp : I64 p) : Calls Tryd.prog 4 #[v, .int .i64 p] w (RetB w (.bool true)) := by
  obtain ⟨s0, c0, rfl, _, _⟩ := hd.ex
  by_cases hf : d.stable.length ≤ 80 ∧ d.cache.length ≤ 80
  · have hfd := Lib.hid (decide_eq_true hf)
    go_enter Tryd.func4, Tryd.ntmps4
    go_wp2_with (first
      | (go_at_call 14; refine (few_ _ d _ (hd.below (below_alloc _ _))).mono ?_; rw [hfd.out]; rintro e w1 ⟨rfl, hb1⟩; have k1 := keepB hb1 (heap_alloc_new _ _); have hB1 : Below w.heap.size w w1 := below_step (below_alloc _ _) hb1; have ec0 := cell_of_row w1 _ 0 _ _ _ k1; have ec1 := cell_of_row w1 _ 1 _ _ _ k1; have ef0 := frozen_of_row w1 _ 0 _ _ k1; have ef1 := frozen_of_row w1 _ 1 _ _ k1; simp at ec0 ec1)
      | (go_at_call 15; refine (sup_LoadA _ d p _ (hd.below hB1)).mono ?_; rintro e w2 ⟨v2, rfl, hv2, hb2⟩; obtain ⟨a2, n2, rfl, _⟩ := hv2.ex; have k2 := keepB hb2 k1; have hB2 : Below w.heap.size w w2 := below_step hB1 hb2; have fc0 := cell_of_row w2 _ 0 _ _ _ k2; have fc1 := cell_of_row w2 _ 1 _ _ _ k2; have ff0 := frozen_of_row w2 _ 0 _ _ k2; have ff1 := frozen_of_row w2 _ 1 _ _ k2; simp at fc0 fc1)
      | (go_at_call 16; refine (ref12_LoadA _ d p _ (hd.below hB2)).mono ?_; rintro e w3 ⟨v3, rfl, hv3, hb3⟩; obtain ⟨a3, n3, rfl, _⟩ := hv3.ex; have hB3 : Below w.heap.size w w3 := below_step hB2 hb3)
      | (go_at_call 10; refine (awake_ _).mono ?_; rintro e w4 ⟨rfl, hb4⟩)
      | (go_at_call 17; refine (bytes_same _ _ (loadPay d p) _ (hv2.below (below_step hb3 hb4)) (hv3.below hb4)).mono ?_; rintro e w5 ⟨rfl, hb5⟩))
    go_ret
    exact ⟨rfl, below_step (below_step hB3 hb4) hb5⟩
  · have hfd := Lib.hid (decide_eq_false hf)
    go_enter Tryd.func4, Tryd.ntmps4
    go_wp2_with (first
      | (go_at_call 14; refine (few_ _ d _ (hd.below (below_alloc _ _))).mono ?_; rw [hfd.out]; rintro e w1 ⟨rfl, hb1⟩; have hB1 : Below w.heap.size w w1 := below_step (below_alloc _ _) hb1)
      | (go_at_call 10; refine (awake_ _).mono ?_; rintro e w4 ⟨rfl, hb4⟩))
    go_ret
    exact ⟨rfl, below_step hB1 hb4⟩
end Go.Proofs.YtnddgpkljpjjbaaDoor
