/- slices.Chunk over a slice of 32 bytes, by 4. -/
import Derived.RangeFuncNested
import Derived.RangeFuncBound
import Derived.RangeFuncCalls
import Derived.RangeFuncLeaves
import Derived.RangeFuncBox
import Derived.Shelf.Abstract
import Derived.Shelf.RegionOpen
import Derived.OwnWalkIn
import Derived.TacticsInMore
import Derived.LoopNIn
import Derived.LoopIn
import Derived.Test.YtnddgpkljpjjbaaDoorCopy
import Derived.Test.YtnddgpkljpjjbaaDoorSmall
namespace Go.Proofs.YtnddgpkljpjjbaaDoor
open Go.RowKit Go.Shelf
set_option linter.unusedVariables false
set_option linter.unusedSimpArgs false
attribute [local go_sem] Oper.semAt_some
/-- the boxes that Chunk's iterator has captured -/
def KeepC (Bs Bn : Nat) (W W' : World) : Prop := W'.heap[Bs]? = W.heap[Bs]? ∧ W'.heap[Bn]? = W.heap[Bn]?
theorem KeepC.trans {Bs Bn : Nat} {A B C : World} (h : KeepC Bs Bn A B) (k : KeepC Bs Bn B C) : KeepC Bs Bn A C := ⟨k.1.trans h.1, k.2.trans h.2⟩
theorem KeepC.refl (Bs Bn : Nat) (A : World) : KeepC Bs Bn A A := ⟨rfl, rfl⟩
theorem finRange_get (k : Nat) (h : k < 8) : (List.finRange 8)[k]? = some ⟨k, h⟩ := by
  rw [List.getElem?_eq_getElem (by simpa using h)]; simp
set_option maxRecDepth 100000 in
set_option maxHeartbeats 2000000 in
theorem chunk1_in (F : Fence) (n : Nat) (h1 : F.fn 56) (hro : F.round = none) (hn : 1 ≤ n) (l Bs Bn g : Nat) (J Jx : List (Fin 8) → World → Prop) (W : World) (hJ : AbidesFrom W.heap.size J)
    (hY : ∀ pre x W, J pre W → pre.length < 8 → YieldAt F (n - 1) Tryd.prog l #[.slice (some ⟨g, 4 * x.1, none⟩) 4 4] W fun e W' =>
      (e = .returned (.bool true) ∧ J (pre ++ [x]) W' ∧ KeepC Bs Bn W W') ∨ (e = .returned (.bool false) ∧ Jx (pre ++ [x]) W'))
    (hBs : W.heap[Bs]? = some (.cells #[.slice (some ⟨g, 0, none⟩) 32 32] 22 (0, 0))) (hBn : W.heap[Bn]? = some (.cells #[.int .i64 4] 3 (0, 0))) (h0 : J [] W) :
    CallsIn F n Tryd.prog 56 #[.func (.yield l) #[] #[], .pointer (some ⟨Bs, 0, none⟩), .pointer (some ⟨Bn, 0, none⟩)] W fun e W' => (∃ v, e = .returned v) ∧
      ((∃ ys, ys = List.finRange 8 ∧ J ys W') ∨ (∃ pre, (∃ k, k ≤ 8 ∧ pre = (List.finRange 8).take k) ∧ Jx pre W')) := by
  refine callsIn_of_wp Tryd.func56 rfl h1 ?_ hro
  simp only [Tryd.ntmps56, List.size_toArray, List.length_cons, List.length_nil, Nat.reduceAdd, Nat.reduceSub, Array.replicate_succ, Array.replicate_zero, List.push_toArray, List.append_toArray, List.nil_append, List.cons_append]
  gi_wp2
  gi_loopw [4] (fun i wr => ∃ k : Nat, k ≤ 8 ∧ i = .int .i64 (4 * k : Nat) ∧ J ((List.finRange 8).take k) wr ∧ KeepC Bs Bn W wr)
    (fun i _ => 32 - (intOf i).toNat)
  case atStart => exact ⟨0, Nat.zero_le _, rfl, h0, KeepC.refl _ _ _⟩
  case round =>
    obtain ⟨k, hk, rfl, hJs, hnx⟩ := hrel
    have cs := cell_of_row wr _ 0 _ _ _ (hnx.1.trans hBs)
    have cn := cell_of_row wr _ 0 _ _ _ (hnx.2.trans hBn)
    simp at cs cn
    by_cases hlt : k < 8
    · have hJd : J ((List.finRange 8).take k) wr.drew := hJ _ _ _ none hJs (grown_of_below (below_drew wr) none) (by intro r e; cases e)
      obtain ⟨fn, tmps, assign, body, hy, hR⟩ := hY _ ⟨k, hlt⟩ wr.drew hJd (by simp; omega)
      have t1 : 4 * k + 4 ≤ 32 := by omega
      obtain ⟨t, ht⟩ : ∃ t, t = 4 * k := ⟨_, rfl⟩
      dsimp only at hy
      rw [← ht] at t1 hy ⊢
      have hm : min (4 : Int) ((32 - t : Nat) : Int) = 4 := by omega
      have HT := Lib.hid ht; clear ht
      gi_wp2
      gi_region
      all_goals
        try simp only [hm]
        gi_wp2
        refine hR.mono ?_
        rintro e W3 (⟨rfl, hJ3, hk3⟩ | ⟨rfl, hJx3⟩)
        · have hk4 : KeepC Bs Bn wr.drew W3 := hk3
          have hnx3 : KeepC Bs Bn W W3 := hnx.trans (KeepC.trans ⟨rfl, rfl⟩ hk3)
          have cn3 := cell_of_row W3 _ 0 _ _ _ (hnx3.2.trans hBn)
          simp at cn3
          gi_wp2
          go_roundw
          case rel => exact ⟨k + 1, by omega, by rw [HT.out]; go_num, by rw [take_snoc _ k ⟨k, hlt⟩ (finRange_get k hlt)]; exact hJ3, hnx3⟩
          case measure => simp [intOf]; omega
        · gi_wp2
          refine bodyPost_ret (results_none rfl _ _ _) rfl ?_
          exact ⟨⟨_, rfl⟩, .inr ⟨_, ⟨k + 1, by omega, (take_snoc _ k ⟨k, hlt⟩ (finRange_get k hlt)).symm⟩, hJx3⟩⟩
    · obtain rfl : k = 8 := by omega
      gi_wp2
      go_end0
      exact ⟨⟨_, rfl⟩, .inl ⟨_, rfl, by rw [List.take_of_length_le (by simp)] at hJs; exact hJs⟩⟩
end Go.Proofs.YtnddgpkljpjjbaaDoor
