/- superblock.Load and the reference's find and Load. -/
import Derived.Test.YtnddgpkljpjjbaaDoorSup5
namespace Go.Proofs.YtnddgpkljpjjbaaDoor
open Go.RowKit
set_option linter.unusedVariables false
set_option linter.unusedSimpArgs false
set_option maxHeartbeats 1000000 in
theorem clone_byte (v : Value) (xs : List UInt8) (w : World) (hv : SlRep w v xs) (hb : xs.length * 1 ≤ 140737488355328) :
    Calls Tryd.prog 32 #[v] w (RetOwn 5 w xs) := by
  obtain ⟨a, c, rfl, hs, hc, hc2, hnil⟩ := hv.ex
  have HB := Lib.hid hb; clear hb
  cases a with
  | none =>
    obtain rfl := hnil rfl
    have hx : xs = [] := List.eq_nil_of_length_eq_zero (by omega)
    subst hx
    have hq := fun w : World => Lib.run_eql_slice_nil (P := Tryd.prog) w 22 5 none 0 0 0 0 Tryd.underlying22
    go_enter Tryd.func32, Tryd.ntmps32
    go_wp2
    go_ret
    exact ⟨_, rfl, Own.nil _ _ _, Below.refl _ _⟩
  | some a =>
    have hq := fun w : World => Lib.run_eql_slice_nil (P := Tryd.prog) w 22 5 (some a) xs.length c 0 0 Tryd.underlying22
    go_enter Tryd.func32, Tryd.ntmps32
    go_wp2_with (at_builtin; go_must (refine wpList_append_Own (α := UInt8) rfl (.tmp 5) (.tmp 6) 22 5 rfl 1 elByte w.heap.size _ _ [] xs rfl (Own.empty _ _ _ (Nat.le_refl _)) rfl (hv.below ((Below.refl _ _).alloc (Nat.le_refl _) _)) (by simp; omega) (by simpa using HB.out) (by simp) ?_); intro v1 w1 ho1 hg1 hn1)
    go_ret
    have hB : Below w.heap.size w w1 := ((Below.refl _ _).alloc (Nat.le_refl _) _).grown hg1 (by simp) (by intro k hk; cases hk; exact Nat.le_refl _)
    exact ⟨_, rfl, by simpa using ho1, hB⟩


/-- Three results: nothing, 0, and the error n. -/
def RetNone3 (w : World) (n : Int) (e : Ending) (w' : World) : Prop := e = .returned (.tuple #[.slice none 0 0, .int .i64 0, .int .i64 n]) ∧ Below w.heap.size w w'
/-- Three results: a slice, a number, no error. -/
def RetLoad (w : World) (d : Disk) (p : Nat) (e : Ending) (w' : World) : Prop := ∃ v, e = .returned (.tuple #[v, .int .i64 (supGen d p), .int .i64 0]) ∧ SlRep w' v (supPay d p) ∧ Below w.heap.size w w'
theorem copyPay_length (l : List Sec) : (copyPay l).length ≤ 31 := by
  unfold copyPay
  split
  · rename_i h
    simp only [copyOk, Bool.and_eq_true, decide_eq_true_eq] at h
    rw [List.length_take]; omega
  · simp
set_option maxRecDepth 100000 in
set_option maxHeartbeats 4000000 in
theorem sup_Load_none (v : Value) (d : Disk) (p : Int) (n : Int) (w : World) (hd : DiskRep w v d) (hn : n = 2 ∨ n = 9) (hf : ∀ w', DiskRep w' v d → Calls Tryd.prog 31 #[v, .int .i64 p] w' (RetFindNone w' n)) :
    Calls Tryd.prog 15 #[v, .int .i64 p] w (RetNone3 w n) := by
  obtain ⟨s0, c0, rfl, _, _⟩ := hd.ex
  have hne : (n != 0) = true := by rcases hn with rfl | rfl <;> rfl
  have HF := Lib.hid hf; have HN := Lib.hid hn; clear hf hn
  go_enter Tryd.func15, Tryd.ntmps15
  go_wp2_with fail
  refine (HF.out _ (hd.below (below_alloc _ _))).mono ?_
  rintro e w1 ⟨g0, g1, j, u0, u1, u2, u3, n0, n1, n2, n3, k0, k1, k2, k3, rfl, hb1⟩
  go_wp2
  go_ret3
  exact ⟨rfl, below_step (below_step (below_alloc _ _) hb1) (below_alloc _ _)⟩
set_option maxRecDepth 100000 in
set_option maxHeartbeats 4000000 in
theorem sup_Load_some (v : Value) (d : Disk) (p : Nat) (w : World) (hd : DiskRep w v d) (hk : d.ok = true) (hin : insideB d.stable.length p 16 = true) (hne : supGen d p ≠ 0) :
    Calls Tryd.prog 15 #[v, .int .i64 p] w (RetLoad w d p) := by
  obtain ⟨s0, c0, rfl, _, _⟩ := hd.ex
  go_enter Tryd.func15, Tryd.ntmps15
  go_wp2_with fail
  refine (sup_find_some _ d p _ (hd.below (below_alloc _ _)) hk hin hne).mono ?_
  rintro e w1 ⟨pa, sa, pb, sb, rfl, hpa, hsa, hpb, hsb, hb1⟩
  obtain ⟨pa1, pa2, rfl, hpa1⟩ := hpa.ex
  obtain ⟨sa1, sa2, rfl, hsa1⟩ := hsa.ex
  obtain ⟨pb1, pb2, rfl, hpb1⟩ := hpb.ex
  obtain ⟨sb1, sb2, rfl, hsb1⟩ := hsb.ex
  have hB1 : Below w.heap.size w w1 := below_step (below_alloc _ _) hb1
  clear hb1
  by_cases hlt : copyGen (supA d p) < copyGen (supB d p)
  · have hnw : supNew d p = 1 := by rw [supNew, if_pos hlt]
    have HG := Lib.hid (show supGen d p = copyGen (supB d p) by rw [supGen, if_pos hlt])
    have HP := Lib.hid (show supPay d p = copyPay (supB d p) by rw [supPay, if_pos hlt])
    rw [hnw]
    clear hnw
    go_wp2
    have hpl := copyPay_length (supA d p)
    have hpl' := copyPay_length (supB d p)
    have r0 : (w1.alloc (.cells #[.int .i64 (copyGen (supA d p)), .slice pa1 (copyPay (supA d p)).length pa2, .slice sa1 (supA d p).length sa2, .int .i64 (copyGen (supB d p)), .slice pb1 (copyPay (supB d p)).length pb2, .slice sb1 (supB d p).length sb2] 76)).heap.size = w1.heap.size + 1 := by simp
    go_region_held3 (fun w' => w'.cell? ⟨w1.heap.size, 0, none⟩ = some (.int .i64 (copyGen (supA d p))) ∧ w'.cell? ⟨w1.heap.size, 1, none⟩ = some (.slice pa1 (copyPay (supA d p)).length pa2) ∧ w'.cell? ⟨w1.heap.size, 3, none⟩ = some (.int .i64 (copyGen (supB d p))) ∧ w'.cell? ⟨w1.heap.size, 4, none⟩ = some (.slice pb1 (copyPay (supB d p)).length pb2))
      (first | go_keep | exact ⟨keep hb3 (by simp [go_sem]), keep hb3 (by simp [go_sem]), keep hb3 (by simp [go_sem]), keep hb3 (by simp [go_sem])⟩)
      ((go_at_call 32; refine (clone_byte _ (copyPay (supB d p)) _ ((hpb).below (by repeat' (first | exact Below.refl _ _ | exact below_drew _ | exact below_alloc _ _ | (refine below_step ?_ (by assumption)) | (refine below_step ?_ (below_alloc _ _)) | (refine below_step ?_ (below_drew _))))) (by omega)).mono ?_; rintro e w3 ⟨v3, rfl, ho3, hb3⟩))
    have hw3 : Below w1.heap.size w1 w3 := (by repeat' (first | exact Below.refl _ _ | exact below_drew _ | exact below_alloc _ _ | (refine below_step ?_ (by assumption)) | (refine below_step ?_ (below_alloc _ _)) | (refine below_step ?_ (below_drew _))))
    go_wp2
    go_ret3
    exact ⟨_, by rw [HG.out]; rfl, by rw [HP.out]; exact ho3.sl, below_step hB1 hw3⟩
  · have hnw : supNew d p = 0 := by rw [supNew, if_neg hlt]
    have HG := Lib.hid (show supGen d p = copyGen (supA d p) by rw [supGen, if_neg hlt])
    have HP := Lib.hid (show supPay d p = copyPay (supA d p) by rw [supPay, if_neg hlt])
    rw [hnw]
    clear hnw
    go_wp2
    have hpl := copyPay_length (supA d p)
    have hpl' := copyPay_length (supB d p)
    have r0 : (w1.alloc (.cells #[.int .i64 (copyGen (supA d p)), .slice pa1 (copyPay (supA d p)).length pa2, .slice sa1 (supA d p).length sa2, .int .i64 (copyGen (supB d p)), .slice pb1 (copyPay (supB d p)).length pb2, .slice sb1 (supB d p).length sb2] 76)).heap.size = w1.heap.size + 1 := by simp
    go_region_held3 (fun w' => w'.cell? ⟨w1.heap.size, 0, none⟩ = some (.int .i64 (copyGen (supA d p))) ∧ w'.cell? ⟨w1.heap.size, 1, none⟩ = some (.slice pa1 (copyPay (supA d p)).length pa2) ∧ w'.cell? ⟨w1.heap.size, 3, none⟩ = some (.int .i64 (copyGen (supB d p))) ∧ w'.cell? ⟨w1.heap.size, 4, none⟩ = some (.slice pb1 (copyPay (supB d p)).length pb2))
      (first | go_keep | exact ⟨keep hb3 (by simp [go_sem]), keep hb3 (by simp [go_sem]), keep hb3 (by simp [go_sem]), keep hb3 (by simp [go_sem])⟩)
      ((go_at_call 32; refine (clone_byte _ (copyPay (supA d p)) _ ((hpa).below (by repeat' (first | exact Below.refl _ _ | exact below_drew _ | exact below_alloc _ _ | (refine below_step ?_ (by assumption)) | (refine below_step ?_ (below_alloc _ _)) | (refine below_step ?_ (below_drew _))))) (by omega)).mono ?_; rintro e w3 ⟨v3, rfl, ho3, hb3⟩))
    have hw3 : Below w1.heap.size w1 w3 := (by repeat' (first | exact Below.refl _ _ | exact below_drew _ | exact below_alloc _ _ | (refine below_step ?_ (by assumption)) | (refine below_step ?_ (below_alloc _ _)) | (refine below_step ?_ (below_drew _))))
    go_wp2
    go_ret3
    exact ⟨_, by rw [HG.out]; rfl, by rw [HP.out]; exact ho3.sl, below_step hB1 hw3⟩
end Go.Proofs.YtnddgpkljpjjbaaDoor
