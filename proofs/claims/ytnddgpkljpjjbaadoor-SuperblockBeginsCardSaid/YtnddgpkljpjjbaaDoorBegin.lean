/- law12.begin. -/
import Derived.Test.YtnddgpkljpjjbaaDoorSRun
import Derived.Test.YtnddgpkljpjjbaaDoorGrow
import Derived.Test.YtnddgpkljpjjbaaDoorRunD
namespace Go.Proofs.YtnddgpkljpjjbaaDoor
open Go.RowKit
set_option linter.unusedVariables false
set_option linter.unusedSimpArgs false
def bare (content : List Sec) : List Sec := content ++ List.replicate 30 Sec.zero
/-- the disk on which a superblock was created -/
def begun (content : List Sec) (xs : List UInt8) : List Sec := putAll (putAll (bare content) (putsAt ((5 : Nat) : Int) (List.replicate 16 Sec.zero))) (putsAt ((5 : Nat) : Int) (copySecs 1 xs))
theorem bare_len (content : List Sec) : (bare content).length = content.length + 30 := by simp [bare]
theorem begun_len (content : List Sec) (xs : List UInt8) : (begun content xs).length = content.length + 30 := by rw [begun, putAll_length, putAll_length, bare_len]
theorem begun_get (content : List Sec) (xs : List UInt8) (i : Nat) : (begun content xs)[i]? = if 5 ≤ i ∧ i < 13 then (copySecs 1 xs)[i - 5]? else if 5 ≤ i ∧ i < 21 then some Sec.zero else (bare content)[i]? := by
  rw [begun, putAll_get _ _ _ _ (by rw [putAll_length, bare_len, copySecs_len]; omega), copySecs_len]
  split
  · rfl
  · rw [putAll_get _ _ _ _ (by rw [bare_len, List.length_replicate]; omega), List.length_replicate]
    split
    · rename_i h
      rw [List.getElem?_replicate, if_pos (by omega)]
    · rfl
theorem begun_A (content : List Sec) (xs : List UInt8) : supA ⟨begun content xs, []⟩ 5 = copySecs 1 xs := ext8 (supA_len _ _ (by rw [begun_len]; omega)) (copySecs_len _ _) fun j hj => by
  rw [supA_get _ _ _ hj, begun_get, if_pos (by omega), Nat.add_sub_cancel_left]
theorem begun_B (content : List Sec) (xs : List UInt8) : supB ⟨begun content xs, []⟩ 5 = List.replicate 8 Sec.zero := ext8 (supB_len _ _ (by rw [begun_len]; omega)) (by simp) fun j hj => by
  rw [supB_get _ _ _ hj, begun_get, if_neg (by omega), if_pos (by omega), List.getElem?_replicate, if_pos hj]
theorem zero8_gen : copyGen (List.replicate 8 Sec.zero) = 0 := by decide
theorem begun_gen (content : List Sec) (xs : List UInt8) (hx : xs.length ≤ 31) : supGen ⟨begun content xs, []⟩ 5 = 1 ∧ supPay ⟨begun content xs, []⟩ 5 = xs ∧ supTop ⟨begun content xs, []⟩ 5 ≤ 1 := by
  obtain ⟨_, h2, h3⟩ := copyOk_copy 1 xs (by omega) hx
  refine ⟨?_, ?_, ?_⟩
  · rw [supGen, begun_A, begun_B, h2, zero8_gen]; rfl
  · rw [supPay, begun_A, begun_B, h2, zero8_gen, h3]; rfl
  · refine topOf_le 1 _ _ (fun s hs => ?_) (by omega)
    rw [supAll_split, begun_A, begun_B, List.mem_append] at hs
    rcases hs with hs | hs
    · exact Nat.le_of_eq (copySecs_gen 1 xs (by omega) s hs)
    · rw [List.eq_of_mem_replicate hs]; decide
theorem begun_run (content : List Sec) (xs : List UInt8) (hx : xs.length ≤ 31) : runOps (fmtRes 5 xs) ⟨bare content, []⟩ 0 = (⟨begun content xs, []⟩, 4, 0) := by
  have he : fmtErr 5 xs = 0 := by rw [fmtErr, if_neg (by omega), if_neg (by omega)]
  have hb := bare_len content
  have h1 : ∀ (st : List Sec) (l : List Sec), st.length = content.length + 30 → l.length ≤ 16 → stepOp ⟨st, []⟩ ⟨0, 5, l⟩ = (0, ⟨st, putsAt 5 l⟩) := fun st l hs hl => by
    rw [stepOp, if_neg (by simp), if_pos rfl, if_pos (by simp [insideB]; omega)]; rfl
  have h2 : ∀ d : Disk, stepOp d ⟨1, 0, []⟩ = (0, ⟨d.newest, []⟩) := fun d => by rw [stepOp, if_neg (by simp), if_neg (by simp)]
  rw [fmtRes, if_pos he, fmtOps, runOps, h1 _ _ hb (by simp), if_pos rfl, runOps, h2, if_pos rfl, runOps, h1 _ _ (by simp only [Disk.newest]; rw [putAll_length]; exact hb) (by rw [copySecs_len]; omega), if_pos rfl, runOps, h2, if_pos rfl, runOps]
  rfl
theorem fmt_four {w : World} {v : Value} {xs : List UInt8} (hx : xs.length ≤ 31) (h : SlRep w v (fmtRes 5 xs)) : ∃ a c, v = .slice a 4 c := by
  obtain ⟨a, c, e, _⟩ := h.ex
  have he : fmtErr 5 xs = 0 := by rw [fmtErr, if_neg (by omega), if_neg (by omega)]
  rw [fmtRes, if_pos he] at e
  exact ⟨a, c, e⟩
theorem own_some {B e : Nat} {w : World} {v : Value} {xs : List Sec} (h : Own B e w v xs) (hne : v ≠ .slice none 0 0) : ∃ g cap, v = .slice (some ⟨g, 0, none⟩) xs.length cap := by
  obtain ⟨css, h0, h1, hl, hor⟩ := h.ex
  rcases hor with ⟨rfl, _⟩ | ⟨g, cap, cur, rfl, _⟩
  · exact absurd rfl hne
  · exact ⟨g, cap, rfl⟩
theorem fmt_room {xs : List UInt8} (hx : xs.length ≤ 31) : ([] : List Cached).length + room (fmtRes 5 xs) ≤ 1000000 := by
  have he : fmtErr 5 xs = 0 := by rw [fmtErr, if_neg (by omega), if_neg (by omega)]
  rw [fmtRes, if_pos he]; simp [fmtOps, room, copySecs_len]
theorem fmt_at {xs : List UInt8} (hx : xs.length ≤ 31) : ∀ o ∈ fmtRes 5 xs, -9223372036854775808 ≤ o.at_ ∧ o.at_ ≤ 9223372036854775807 := by
  have he : fmtErr 5 xs = 0 := by rw [fmtErr, if_neg (by omega), if_neg (by omega)]
  rw [fmtRes, if_pos he]
  intro o ho
  simp only [fmtOps, List.mem_cons, List.mem_nil_iff, or_false] at ho
  rcases ho with rfl | rfl | rfl | rfl <;> simp
def RetBegin (w : World) (out : List Sec) (e : Ending) (w' : World) : Prop :=
  ∃ (sa : Option Addr) (sn : Nat) (ca : Option Addr) (cn : Nat), e = .returned (.tuple #[.agg #[.slice sa out.length sn, .slice ca 0 cn], .bool true]) ∧ OwnDisk w.heap.size w' (.slice sa out.length sn) (.slice ca 0 cn) ⟨out, []⟩ ∧ Below w.heap.size w w'
set_option maxRecDepth 100000 in
set_option maxHeartbeats 4000000 in
theorem law_begin (u v : Value) (content : List Sec) (xs : List UInt8) (w : World) (hu : SlRep w u content) (hv : SlRep w v xs) (hc : content.length ≤ 30) (hx : xs.length ≤ 31) :
    Calls Tryd.prog 21 #[u, v] w (RetBegin w (begun content xs)) := by
  obtain ⟨ua, uc, rfl, _⟩ := hu.ex
  obtain ⟨va, vc, rfl, _⟩ := hv.ex
  have he : Hid (fmtErr 5 xs = 0) := Lib.hid (by rw [fmtErr, if_neg (by omega), if_neg (by omega)])
  have HRUN := Lib.hid (begun_run content xs hx)
  have hok : (⟨bare content, []⟩ : Disk).ok = true := by simp [Disk.ok, bare_len]; omega
  have HOK := Lib.hid hok; clear hok
  go_enter Tryd.func21, Tryd.ntmps21
  have hoE : Own (w.heap.size + 1) 57 ((w.alloc (.cells #[.slice none 0 0, .slice none 0 0] 35)).alloc (.cells #[] 57)) (.slice (some ⟨w.heap.size + 1, 0, none⟩) 0 0) ([] : List Sec) := by
    have := Own.empty (α := Sec) (w.heap.size + 1) 57 (w.alloc (.cells #[.slice none 0 0, .slice none 0 0] 35)) (by simp)
    simpa using this
  have kb0 := keepB (below_alloc _ (.cells #[] 57)) (heap_alloc_new w (.cells #[.slice none 0 0, .slice none 0 0] 35))
  go_wp2_with (first
    | (at_builtin; refine wpList_append_Own (α := Sec) rfl (.tmp 11) (.tmp 12) 32 57 rfl 8 elSec (w.heap.size + 1) (.slice (some ⟨w.heap.size + 1, 0, none⟩) 0 0) (.slice ua content.length uc) [] content rfl hoE rfl (hu.below (below_alloc2 _ _ _)) (by simp; omega) (by simp; omega) (by simp) ?_; intro v13 w1 ho13 hg13 hn13; simp only [List.nil_append] at ho13; obtain ⟨g, cap, rfl⟩ := own_some ho13 (fun e => by have := (hn13.1 e).1; cases this); have hs1 := hg13.size; obtain ⟨v14, w2, hz14, ho14, hg14⟩ := run_zeros 32 g content.length cap content ho13 rfl (by omega) (by simp at hs1; omega); have kb1 := keepG hg13 kb0 (by simp [Value.ownBlock]); clear hoE; have hg1 : w.heap.size + 1 ≤ g := ho13.base g rfl; have kb2 := keepG hg14 kb1 (fun e => by injection e with e; omega); have ho15 : Own (w.heap.size + 1) 57 w2 v14 (bare content) := ho14; clear ho14; obtain ⟨a14, n14, rfl, _⟩ := ho15.sl.ex; have hB1 : Below w.heap.size w w1 := (below_alloc2 w _ _).grown hg13 (below_alloc2 w _ _).size (fun q hq => by simp only [Value.ownBlock, Option.some.injEq] at hq; omega); have hB2 : Below w.heap.size w w2 := hB1.grown hg14 hB1.size (fun q hq => by injection hq with hq; omega); have HKB2 := Lib.hid kb2; clear kb0 kb1 kb2)
    | (at_builtin; refine wpList_append_run rfl (.tmp 13) (.const (.int .i64 30)) 32 3 rfl (.slice (some ⟨g, 0, none⟩) content.length cap) (.int .i64 30) (.slice a14 (bare content).length n14) w2 rfl rfl hz14 ?_)
    | (go_at_call 11; refine (sup_Format 5 _ xs _ (hv.below (below_step hB2 (below_alloc w2 _))) (by omega)).mono ?_; rintro e w3 ⟨v3, rfl, hv3, hb3⟩; obtain ⟨a3, n3, rfl⟩ := fmt_four hx hv3; rw [he.out]; have kt3 := keepB hb3 (heap_alloc_new w2 (.cells #[.slice a14 (bare content).length n14, .slice none 0 0] 35)); have HKB3 := Lib.hid (keepB hb3 (keepB (below_alloc w2 _) HKB2.out)); have HKT3 := Lib.hid kt3; have hB3 : Below w.heap.size w w3 := below_step (below_step hB2 (below_alloc w2 _)) hb3; have hd3 : DiskRep w3 (.agg #[.slice a14 (bare content).length n14, .slice none 0 0]) ⟨bare content, []⟩ := ⟨_, _, rfl, ((ho15.below (below_alloc w2 _)).below hb3).sl, SlRep.nil _⟩; have ec0 := cell_of_row w3 _ 0 _ _ _ kt3; have ec1 := cell_of_row w3 _ 1 _ _ _ kt3; have ef0 := frozen_of_row w3 _ 0 _ _ kt3; have ef1 := frozen_of_row w3 _ 1 _ _ kt3; simp at ec0 ec1; clear kt3)
    | fail)
  refine (disk_Run _ ⟨bare content, []⟩ _ _ _ hd3 hv3 HOK.out (fmt_room hx) (fmt_at hx)).mono ?_
  rintro e w4 ⟨s4, c4, rfl, ho, hb4⟩
  rw [HRUN.out] at ho ⊢
  clear HRUN
  generalize hout : begun content xs = out at ho ⊢
  have HOUT := Lib.hid hout; clear hout
  simp only [if_true] at ho
  obtain ⟨a4, n4, rfl, _⟩ := ho.1.sl.ex
  obtain ⟨a5, n5, rfl, _⟩ := ho.2.sl.ex
  simp only [List.length_nil] at ho ⊢
  have kt4 := keepB hb4 HKT3.out
  have kb4 := keepB hb4 HKB3.out
  have hz4 := (Array.getElem?_eq_some_iff.1 kb4).1
  have hzt : w2.heap.size < w3.heap.size := (Array.getElem?_eq_some_iff.1 HKT3.out).1
  have hzb : w.heap.size < w2.heap.size := (Array.getElem?_eq_some_iff.1 HKB2.out).1
  have hne : w.heap.size ≠ w2.heap.size := by omega
  have hne' : w2.heap.size ≠ w.heap.size := by omega
  have hB4 : Below w.heap.size w w4 := below_step hB3 hb4
  have ho1 : Own w3.heap.size 57 w4 (.slice a4 out.length n4) out := ho.1
  have ho2 : Own w3.heap.size 109 w4 (.slice a5 0 n5) ([] : List Cached) := ho.2
  have fc0 := cell_of_row w4 _ 0 _ _ _ kt4
  have fc1 := cell_of_row w4 _ 1 _ _ _ kt4
  have ff0 := frozen_of_row w4 _ 0 _ _ kt4
  have ff1 := frozen_of_row w4 _ 1 _ _ kt4
  simp at fc0 fc1
  have gc0 := cell_of_row w4 _ 0 _ _ _ kb4
  have gc1 := cell_of_row w4 _ 1 _ _ _ kb4
  have gf0 := frozen_of_row w4 _ 0 _ _ kb4
  have gf1 := frozen_of_row w4 _ 1 _ _ kb4
  simp at gc0 gc1
  clear kt4 kb4 ho
  go_wp2
  refine bodyPost_ret (v := .tuple #[.agg #[.slice a4 out.length n4, .slice a5 0 n5], .bool true]) (by simp [results, Tryd.results21, go_sem, gc0, gc1, hz4]) rfl ?_
  rw [HOUT.out]
  exact ⟨a4, n4, a5, n5, rfl, ⟨(ho1.sets (B' := w3.heap.size) (by omega) (Nat.le_refl _)).sets (B' := w.heap.size) (by omega) (by omega), (ho2.sets (B' := w3.heap.size) (by omega) (Nat.le_refl _)).sets (B' := w.heap.size) (by omega) (by omega)⟩, ((((hB4.setCell (p := ⟨w2.heap.size, 0, none⟩) (by simp; omega) _).setCell (p := ⟨w2.heap.size, 1, none⟩) (by simp; omega) _).setCell (p := ⟨w.heap.size, 0, none⟩) (by simp) _).setCell (p := ⟨w.heap.size, 1, none⟩) (by simp) _)⟩
end Go.Proofs.YtnddgpkljpjjbaaDoor
