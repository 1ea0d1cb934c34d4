/- law12.SuperblockFormats, law12.SuperblockStores: the walks of the laws. -/
import Derived.Test.YtnddgpkljpjjbaaDoorAwake
import Derived.Test.YtnddgpkljpjjbaaDoorSame
import Derived.Test.YtnddgpkljpjjbaaDoorRStore
import Derived.Test.YtnddgpkljpjjbaaDoorOpn
namespace Go.Proofs.YtnddgpkljpjjbaaDoor
open Go.RowKit
set_option linter.unusedVariables false
set_option linter.unusedSimpArgs false
set_option maxRecDepth 100000 in
set_option maxHeartbeats 2000000 in
theorem law_formats (p : Int) (v : Value) (xs : List UInt8) (w : World) (hp : I64 p) (hv : SlRep w v xs) : Calls Tryd.prog 3 #[.int .i64 p, v] w (RetB w (.bool true)) := by
  obtain ⟨a, c, rfl, _⟩ := hv.ex
  by_cases hx : xs.length ≤ 100
  · have t1 : ¬ (100 : Int) < xs.length := by omega
    go_enter Tryd.func3, Tryd.ntmps3
    go_wp2_with (first
      | (go_at_call 11; refine (sup_Format p _ xs _ hv hp).mono ?_; rintro e w2 ⟨v2, rfl, hv2, hb2⟩; obtain ⟨a2, n2, rfl, _⟩ := hv2.ex)
      | (go_at_call 12; refine (ref12_Format p _ xs _ (hv.below hb2) hp).mono ?_; rintro e w3 ⟨v3, rfl, hv3, hb3⟩; obtain ⟨a3, n3, rfl, _⟩ := hv3.ex; have hB3 : Below w.heap.size w w3 := below_step hb2 hb3)
      | (go_at_call 10; refine (awake_ _).mono ?_; rintro e w4 ⟨rfl, hb4⟩)
      | (go_at_call 13; refine (same_ops _ _ (fmtRes p xs) _ (hv2.below (below_step hb3 hb4)) (hv3.below hb4)).mono ?_; rintro e w5 ⟨rfl, hb5⟩))
    go_ret
    exact ⟨rfl, below_step (below_step hB3 hb4) hb5⟩
  · have t1 : (100 : Int) < xs.length := by omega
    go_enter Tryd.func3, Tryd.ntmps3
    go_wp2_with (go_at_call 10; refine (awake_ _).mono ?_; rintro e w4 ⟨rfl, hb4⟩)
    go_ret
    exact ⟨rfl, hb4⟩
set_option maxRecDepth 100000 in
set_option maxHeartbeats 2000000 in
theorem law_stores (v : Value) (d : Disk) (p : Int) (u : Value) (xs : List UInt8) (w : World) (hd : DiskRep w v d) (hp : I64 p) (hu : SlRep w u xs) : Calls Tryd.prog 5 #[v, .int .i64 p, u] w (RetB w (.bool true)) := by
  obtain ⟨s0, c0, rfl, _, _⟩ := hd.ex
  obtain ⟨a, c, rfl, _⟩ := hu.ex
  by_cases hf : d.stable.length ≤ 80 ∧ d.cache.length ≤ 80
  · have hfd := Lib.hid (decide_eq_true hf)
    by_cases hx : xs.length ≤ 100
    · have t1 : ¬ (100 : Int) < xs.length := by omega
      go_enter Tryd.func5, Tryd.ntmps5
      go_wp2_with (first
        | (go_at_call 14; refine (few_ _ d _ (hd.below (below_alloc _ _))).mono ?_; rw [hfd.out]; rintro e w1 ⟨rfl, hb1⟩; have k1 := keepB hb1 (heap_alloc_new _ _); have hB1 : Below w.heap.size w w1 := below_step (below_alloc _ _) hb1; have ec0 := cell_of_row w1 _ 0 _ _ _ k1; have ec1 := cell_of_row w1 _ 1 _ _ _ k1; have ef0 := frozen_of_row w1 _ 0 _ _ k1; have ef1 := frozen_of_row w1 _ 1 _ _ k1; simp at ec0 ec1)
        | (go_at_call 18; refine (sup_Store _ d p _ xs _ (hd.below hB1) hp (hu.below hB1)).mono ?_; rintro e w2 ⟨v2, rfl, hv2, hb2⟩; obtain ⟨a2, n2, rfl, _⟩ := hv2.ex; have k2 := keepB hb2 k1; have hB2 : Below w.heap.size w w2 := below_step hB1 hb2; have fc0 := cell_of_row w2 _ 0 _ _ _ k2; have fc1 := cell_of_row w2 _ 1 _ _ _ k2; have ff0 := frozen_of_row w2 _ 0 _ _ k2; have ff1 := frozen_of_row w2 _ 1 _ _ k2; simp at fc0 fc1)
        | (go_at_call 19; refine (ref12_Store _ d p _ xs _ (hd.below hB2) hp (hu.below hB2)).mono ?_; rintro e w3 ⟨v3, rfl, hv3, hb3⟩; obtain ⟨a3, n3, rfl, _⟩ := hv3.ex; have hB3 : Below w.heap.size w w3 := below_step hB2 hb3)
        | (go_at_call 10; refine (awake_ _).mono ?_; rintro e w4 ⟨rfl, hb4⟩)
        | (go_at_call 13; refine (same_ops _ _ (storeRes d p xs) _ (hv2.below (below_step hb3 hb4)) (hv3.below hb4)).mono ?_; rintro e w5 ⟨rfl, hb5⟩))
      go_ret
      exact ⟨rfl, below_step (below_step hB3 hb4) hb5⟩
    · have t1 : (100 : Int) < xs.length := by omega
      go_enter Tryd.func5, Tryd.ntmps5
      go_wp2_with (first
        | (go_at_call 14; refine (few_ _ d _ (hd.below (below_alloc _ _))).mono ?_; rw [hfd.out]; rintro e w1 ⟨rfl, hb1⟩; have hB1 : Below w.heap.size w w1 := below_step (below_alloc _ _) hb1)
        | (go_at_call 10; refine (awake_ _).mono ?_; rintro e w4 ⟨rfl, hb4⟩))
      go_ret
      exact ⟨rfl, below_step hB1 hb4⟩
  · have hfd := Lib.hid (decide_eq_false hf)
    go_enter Tryd.func5, Tryd.ntmps5
    go_wp2_with (first
      | (go_at_call 14; refine (few_ _ d _ (hd.below (below_alloc _ _))).mono ?_; rw [hfd.out]; rintro e w1 ⟨rfl, hb1⟩; have hB1 : Below w.heap.size w w1 := below_step (below_alloc _ _) hb1)
      | (go_at_call 10; refine (awake_ _).mono ?_; rintro e w4 ⟨rfl, hb4⟩))
    go_ret
    exact ⟨rfl, below_step hB1 hb4⟩
end Go.Proofs.YtnddgpkljpjjbaaDoor
