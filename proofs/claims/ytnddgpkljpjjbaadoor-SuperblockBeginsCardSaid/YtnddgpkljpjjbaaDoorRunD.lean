/- disk.Run. -/
import Derived.Test.YtnddgpkljpjjbaaDoorRun
namespace Go.Proofs.YtnddgpkljpjjbaaDoor
open Go.RowKit
set_option linter.unusedVariables false
set_option linter.unusedSimpArgs false
/-- the disk (none behind an error), the index and the number of the error -/
def RetRunD (w : World) (d : Disk) (ops : List OpD) (e : Ending) (w' : World) : Prop :=
  ∃ s c, e = .returned (.tuple #[.agg #[s, c], .int .i64 (runOps ops d 0).2.1, .int .i64 (runOps ops d 0).2.2]) ∧ OwnDisk w.heap.size w' s c (if (runOps ops d 0).2.2 = 0 then (runOps ops d 0).1 else ⟨[], []⟩) ∧ Below w.heap.size w w'
set_option maxRecDepth 100000 in
set_option maxHeartbeats 4000000 in
theorem disk_Run (w : World) (d : Disk) (u v : Value) (ops : List OpD) (hd : DiskRep w u d) (hv : SlRep w v ops) (hok : d.ok = true) (hroom : d.cache.length + room ops ≤ 1000000) (hat : ∀ o ∈ ops, -9223372036854775808 ≤ o.at_ ∧ o.at_ ≤ 9223372036854775807) :
    Calls Tryd.prog 25 #[u, v] w (RetRunD w d ops) := by
  obtain ⟨s0, c0, rfl, h1, h2⟩ := hd.ex
  obtain ⟨sa, sc, rfl, _⟩ := h1.ex
  obtain ⟨ca, cc, rfl, _⟩ := h2.ex
  have hst := (Disk.ok_get d hok).1
  go_enter Tryd.func25, Tryd.ntmps25
  have HEN : Hid (d.errNum = 0) := Lib.hid (by rw [Disk.errNum, hok]; rfl)
  have HOK := Lib.hid hok; clear hok
  have HRM := Lib.hid hroom; have HAT := Lib.hid hat; clear hroom hat
  go_wp2_with (first
    | (go_at_call 36; refine (disk_Check _ d _ (hd.below (below_alloc2 _ _ _))).mono ?_; rintro e w1 ⟨rfl, hb1⟩; rw [HEN.out]; have hk := keepB hb1 (heap_alloc2_old w _ _); have hk2 := keepB hb1 (heap_alloc2_new w _ _); have ec0 := cell_of_row w1 _ 0 _ _ _ hk; have ec1 := cell_of_row w1 _ 1 _ _ _ hk; have ef0 := frozen_of_row w1 _ 0 _ _ hk; have ef1 := frozen_of_row w1 _ 1 _ _ hk; simp at ec0 ec1; have fc0 := cell_of_row w1 _ 0 _ _ _ hk2; have fc1 := cell_of_row w1 _ 1 _ _ _ hk2; have ff0 := frozen_of_row w1 _ 0 _ _ hk2; have ff1 := frozen_of_row w1 _ 1 _ _ hk2; simp at fc0 fc1)
    | (go_at_call 38; refine (disk_copied _ d _ (hd.below (below_step (below_alloc2 _ _ _) hb1)) (by omega) (by have := HRM.out; omega)).mono ?_; rintro e w2 ⟨sv, cv, rfl, ho2, hb2⟩; obtain ⟨a3, n3, rfl, _⟩ := ho2.1.sl.ex; obtain ⟨a4, n4, rfl, _⟩ := ho2.2.sl.ex; have hb0 : Below w.heap.size w w1 := below_step (below_alloc2 _ _ _) hb1; have hx1 := heap_alloc_new w2 (.cells #[.slice a3 d.stable.length n3, .slice a4 d.cache.length n4] 90); have hbx := below_alloc w2 (.cells #[.slice a3 d.stable.length n3, .slice a4 d.cache.length n4] 90); have hE : ExecW w1 (w2.alloc (.cells #[.slice a3 d.stable.length n3, .slice a4 d.cache.length n4] 90)) w2.heap.size d := ⟨_, _, hx1, ⟨ho2.1.below hbx, ho2.2.below hbx⟩, below_step hb2 hbx, hb2.size⟩)
    | (go_at_call 39; refine (exec_run w1 _ w2.heap.size d v ops hE (hv.below hb0) HOK.out HRM.out HAT.out).mono ?_; rintro e w3 ⟨d', rfl, hd', he3⟩; obtain ⟨s5, c5, hx5, ⟨ho5, ho6⟩, hB5, hxb5⟩ := he3; have hk5 := keepB hB5 hk2; obtain ⟨a5, n5, rfl, _⟩ := ho5.sl.ex; obtain ⟨a6, n6, rfl, _⟩ := ho6.sl.ex; obtain ⟨R, hR⟩ : ∃ R, R = runOps ops d 0 := ⟨_, rfl⟩; rw [← hR] at hd' ⊢; obtain ⟨D, N, r⟩ := R; simp only at hd' ⊢; subst hd'; have gc0 := cell_of_row w3 _ 0 _ _ _ hk5; have gc1 := cell_of_row w3 _ 1 _ _ _ hk5; have gf0 := frozen_of_row w3 _ 0 _ _ hk5; have gf1 := frozen_of_row w3 _ 1 _ _ hk5; simp at gc0 gc1; have hc0 := cell_of_row w3 _ 0 _ _ _ hx5; have hc1 := cell_of_row w3 _ 1 _ _ _ hx5; have hf0 := frozen_of_row w3 _ 0 _ _ hx5; have hf1 := frozen_of_row w3 _ 1 _ _ hx5; simp at hc0 hc1))
  · have hr : ¬ r = 0 := by
      have h : (r != 0) = true := by assumption
      simpa using h
    have hBf : Below w.heap.size w w3 := below_step hb0 hB5
    refine bodyPost_ret (v := .tuple #[.agg #[.slice none 0 0, .slice none 0 0], .int .i64 N, .int .i64 r]) (by simp [results, Tryd.results25, go_sem, gc0, gc1]) rfl ?_
    exact ⟨_, _, by rw [← hR], by rw [← hR]; simp only [if_neg hr]; exact ⟨Own.nil _ _ _, Own.nil _ _ _⟩, (hBf.setCell (p := ⟨w.heap.size + 1, 0, none⟩) (by simp) _).setCell (p := ⟨w.heap.size + 1, 1, none⟩) (by simp) _⟩
  · have hr : r = 0 := by
      have h : (r != 0) = false := by assumption
      simpa using h
    subst hr
    have hBf : Below w.heap.size w w3 := below_step hb0 hB5
    have hz1 := (Array.getElem?_eq_some_iff.1 hk2).1
    refine bodyPost_ret (v := .tuple #[.agg #[.slice a5 d'.stable.length n5, .slice a6 d'.cache.length n6], .int .i64 N, .int .i64 0]) (by simp [results, Tryd.results25, go_sem, gc0, gc1]) rfl ?_
    exact ⟨_, _, by rw [← hR], by rw [← hR]; exact ⟨ho5.sets (B' := w.heap.size) (by omega) (by omega), ho6.sets (B' := w.heap.size) (by omega) (by omega)⟩, (hBf.setCell (p := ⟨w.heap.size + 1, 0, none⟩) (by simp) _).setCell (p := ⟨w.heap.size + 1, 1, none⟩) (by simp) _⟩
theorem OwnDisk.rep {B : Nat} {w : World} {s c : Value} {d : Disk} (h : OwnDisk B w s c d) : DiskRep w (.agg #[s, c]) d := ⟨s, c, rfl, h.1.sl, h.2.sl⟩
end Go.Proofs.YtnddgpkljpjjbaaDoor
