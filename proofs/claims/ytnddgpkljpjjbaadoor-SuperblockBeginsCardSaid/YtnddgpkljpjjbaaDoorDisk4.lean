/- Contracts: disk.Read. -/
import Derived.Test.YtnddgpkljpjjbaaDoorDisk3
namespace Go.Proofs.YtnddgpkljpjjbaaDoor
open Go.RowKit
set_option linter.unusedVariables false
set_option linter.unusedSimpArgs false
theorem errNum_ok {d : Disk} (h : d.ok = true) : d.errNum = 0 := by simp [Disk.errNum, h]
theorem errNum_bad {d : Disk} (h : d.ok = false) : d.errNum = 2 := by simp [Disk.errNum, h]
/-- Two results: nothing, and the error n. -/
def RetNone2 (w : World) (n : Int) (e : Ending) (w' : World) : Prop := e = .returned (.tuple #[.slice none 0 0, .int .i64 n]) ∧ Below w.heap.size w w'
/-- Two results: a slice that reads as xs, and no error. -/
def RetSl2 {α : Type} [Rep α] (w : World) (xs : List α) (e : Ending) (w' : World) : Prop := ∃ v, e = .returned (.tuple #[v, .int .i64 0]) ∧ SlRep w' v xs ∧ Below w.heap.size w w'
set_option maxHeartbeats 2000000 in
theorem disk_Read_bad (v : Value) (d : Disk) (s c : Int) (w : World) (hd : DiskRep w v d) (hok : (d.ok && insideB d.stable.length s c) = false) :
    Calls Tryd.prog 41 #[v, .agg #[.int .i64 s, .int .i64 c]] w (RetNone2 w 2) := by
  obtain ⟨s0, c0, rfl, h1, h2⟩ := hd.ex
  clear h1 h2
  by_cases hk : d.ok = true
  · have hin : insideB d.stable.length s c = false := by simpa [hk] using hok
    have he := errNum_ok hk
    go_enter Tryd.func41, Tryd.ntmps41
    go_wp2_with (first | (go_at_call 36; refine (disk_Check _ d _ (hd.below (below_alloc2 _ _ _))).mono ?_; rw [he]; rintro e w1 ⟨rfl, hb1⟩; obtain ⟨hc1, hf1⟩ := bcell hb1) | (go_at_call 57; refine (disk_inside _ d s c _ ((hd.below (below_alloc2 _ _ _)).below hb1)).mono ?_; rw [hin]; rintro e w2 ⟨rfl, hb2⟩))
    go_ret2
    exact ⟨rfl, below_step (below_step (below_alloc2 _ _ _) hb1) hb2⟩
  · have he := errNum_bad (by simpa using hk : d.ok = false)
    go_enter Tryd.func41, Tryd.ntmps41
    go_wp2_with (first | (go_at_call 36; refine (disk_Check _ d _ (hd.below (below_alloc2 _ _ _))).mono ?_; rw [he]; rintro e w1 ⟨rfl, hb1⟩; obtain ⟨hc1, hf1⟩ := bcell hb1))
    go_ret2
    exact ⟨rfl, below_step (below_alloc2 _ _ _) hb1⟩
set_option maxRecDepth 100000 in
set_option maxHeartbeats 4000000 in
theorem disk_Read_ok (v : Value) (d : Disk) (s c : Nat) (w : World) (hd : DiskRep w v d) (hk : d.ok = true) (hin : insideB d.stable.length s c = true) :
    Calls Tryd.prog 41 #[v, .agg #[.int .i64 s, .int .i64 c]] w (RetSl2 w ((d.newest.drop s).take c)) := by
  obtain ⟨s0, c0, rfl, h1, h2⟩ := hd.ex
  clear h1 h2
  have he := errNum_ok hk
  have hsc : s + c ≤ d.stable.length := by simp [insideB] at hin; omega
  have hlen := (Disk.ok_get d hk).1
  have hnl : d.newest.length = d.stable.length := putAll_length _ _
  have HNL := Lib.hid hnl; clear hnl
  go_enter Tryd.func41, Tryd.ntmps41
  go_wp2_with (first | (go_at_call 36; refine (disk_Check _ d _ (hd.below (below_alloc2 _ _ _))).mono ?_; rw [he]; rintro e w1 ⟨rfl, hb1⟩; obtain ⟨hc1, hf1⟩ := bcell hb1) | (go_at_call 57; refine (disk_inside _ d s c _ ((hd.below (below_alloc2 _ _ _)).below hb1)).mono ?_; rw [hin]; rintro e w2 ⟨rfl, hb2⟩))
  have hB2 : Below w.heap.size w w2 := below_step (below_step (below_alloc2 _ _ _) hb1) hb2
  have d2 : DiskRep w2 (.agg #[s0, c0]) d := hd.below hB2
  have hz : w.heap.size + 1 < w2.heap.size := by have := hb1.size; have := hb2.size; simp at *; omega
  have k0 : w2.cell? ⟨w.heap.size, 0, none⟩ = some s0 := keep hb2 (keep hb1 (by simp [go_sem]))
  have k1 : w2.cell? ⟨w.heap.size, 1, none⟩ = some c0 := keep hb2 (keep hb1 (by simp [go_sem]))
  have k2 : w2.cell? ⟨w.heap.size + 1, 0, none⟩ = some (.int .i64 s) := keep hb2 (keep hb1 (by simp [go_sem]))
  have k3 : w2.cell? ⟨w.heap.size + 1, 1, none⟩ = some (.int .i64 c) := keep hb2 (keep hb1 (by simp [go_sem]))
  clear hc1 hf1 hb1 hb2
  have b1 : IntKind.i64.wrap ((s : Int) + c) = (s : Int) + c := IntWalk.i64_in _ (by omega)
  have b2 : (0 : Int) ≤ (s : Int) + c := by omega
  have b3 : ((s : Int) + c).toNat = s + c := by omega
  go_region_held3 (fun w' => w'.cell? ⟨w.heap.size, 0, none⟩ = some s0 ∧ w'.cell? ⟨w.heap.size, 1, none⟩ = some c0 ∧ w'.cell? ⟨w.heap.size + 1, 0, none⟩ = some (.int .i64 s) ∧ w'.cell? ⟨w.heap.size + 1, 1, none⟩ = some (.int .i64 c))
    (first | go_keep | exact ⟨keep hb3 k0, keep hb3 k1, keep hb3 k2, keep hb3 k3⟩)
    ((go_at_call 58; refine (disk_newest _ d _ (d2.below (below_drewN (Below.refl _ _) 1)) hk).mono ?_; rintro e w3 ⟨v3, rfl, ho3, hb3⟩; obtain ⟨a3, cap3, rfl, hs3, hl3, hm3, hn3⟩ := ho3.sl.ex; rw [HNL.out] at hl3; rw [HNL.out]; have i1 : (s : Int) + c ≤ cap3 := (by omega); have i2 : (s : Int) ≤ (s : Int) + c := (by omega)))
  have hB3 : Below w.heap.size w w3 := below_step hB2 (below_then (below_drewN (Below.refl _ _) 1) (Nat.le_refl _) hb3)
  go_wp2
  all_goals go_ret2
  · exact ⟨_, rfl, ⟨a3, 0, by simp, fun h => absurd (by simp) h, by simp, by omega, fun _ => rfl⟩, hB3⟩
  · have hc0 : ¬ c = 0 := by assumption
    have hl2 : ((d.newest.drop s).take c).length = c := by rw [List.length_take, List.length_drop, HNL.out]; omega
    refine ⟨_, rfl, ⟨_, c, by rw [hl2]; rfl, SlAt.sub hs3 s c (by rw [HNL.out]; omega) (fun _ => rfl), by omega, by omega, ?_⟩, hB3⟩
    intro h
    cases a3 with
    | none => exact absurd (hn3 rfl) (by omega)
    | some a => simp at h
end Go.Proofs.YtnddgpkljpjjbaaDoor
