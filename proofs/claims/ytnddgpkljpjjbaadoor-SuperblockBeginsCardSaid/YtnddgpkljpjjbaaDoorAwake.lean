/- law12.awake. -/
import Derived.Test.YtnddgpkljpjjbaaDoorEqSec
namespace Go.Proofs.YtnddgpkljpjjbaaDoor
open Go.RowKit
set_option linter.unusedVariables false
set_option linter.unusedSimpArgs false
theorem two_bytes {w : World} {x y : UInt8} {b : Nat} (hb : b = w.heap.size) : SlRep (w.alloc (.cells #[.int .u8 x.toNat, .int .u8 y.toNat] 5)) (.slice (some ⟨b, 0, none⟩) 2 2) [x, y] := by
  subst hb
  refine SlRep.two (xs := [x, y]) [[.int .u8 x.toNat], [.int .u8 y.toNat]] rfl ?_ rfl (by simp)
  intro i z c hx hc
  match i, hx, hc with
  | 0, hx, hc => cases hx; cases hc; rfl
  | 1, hx, hc => cases hx; cases hc; rfl
  | i + 2, hx, hc => simp at hc
theorem bytes78 {w : World} {b : Nat} (hb : b = w.heap.size) : SlRep (w.alloc (.cells #[.int .u8 7, .int .u8 8] 5)) (.slice (some ⟨b, 0, none⟩) 2 2) ([7, 8] : List UInt8) := two_bytes (x := 7) (y := 8) hb
theorem aw_d1 : aw1 = (runOps awOps aw0 0).1 := rfl
theorem aw_d2 : aw2 = (runOps awOps2 aw1 0).1 := rfl
theorem aw_c1 : aw1.cache.length = 0 := by decide +kernel
theorem aw_c2 : aw2.cache.length = 0 := by decide +kernel
theorem byte9 {w : World} {b : Nat} (hb : b = w.heap.size) : SlRep (w.alloc (.cells #[.int .u8 9] 5)) (.slice (some ⟨b, 0, none⟩) 1 1) ([9] : List UInt8) := SlRep.single' (x := (9 : UInt8)) hb rfl
theorem OwnDisk.sets {B g : Nat} {w : World} {s c a b : Value} {d : Disk} (h : OwnDisk B w s c d) (hg : g < B) : OwnDisk B ((w.setCell ⟨g, 0, none⟩ a).setCell ⟨g, 1, none⟩ b) s c d := ⟨h.1.sets hg (Nat.le_refl _), h.2.sets hg (Nat.le_refl _)⟩
attribute [local irreducible] aw0 aw1 aw2 awOps awOps2
set_option maxRecDepth 100000 in
set_option maxHeartbeats 8000000 in
theorem awake_ (w : World) : Calls Tryd.prog 10 #[] w (RetB w (.bool true)) := by
  have heqs := eq_sec
  go_enter Tryd.func10, Tryd.ntmps10
  go_wp2_with (first
    | (go_at_call 24; refine (aw_New _).mono ?_; rintro e w1 ⟨sa1, sn1, ca1, cn1, rfl, hd1, hb1⟩)
    | (go_at_call 11; refine (aw_Format _ _ (bytes78 (by simp))).mono ?_; rintro e w2 ⟨a2, n2, rfl, ho2, hb2⟩; have k2 := keepB hb2 (heap_alloc2_old w1 _ _); have hB2 : Below w.heap.size w w2 := below_step hb1 (below_step (below_alloc2 w1 _ _) hb2); have hA2 := (Array.getElem?_eq_some_iff.1 k2).1; have ec0 := cell_of_row w2 _ 0 _ _ _ k2; have ec1 := cell_of_row w2 _ 1 _ _ _ k2; have ef0 := frozen_of_row w2 _ 0 _ _ k2; have ef1 := frozen_of_row w2 _ 1 _ _ k2; simp at ec0 ec1)
    | (go_at_call 25; refine (aw_Run _ aw0 aw1 _ _ awOps 4 (hd1.below (below_step (below_alloc2 w1 _ _) hb2)) ho2 aw_ok0 aw_room1 aw_at1 aw_run1 aw_d1 aw_len1 aw_c1).mono ?_; rintro e w3 ⟨sa3, sn3, ca3, cn3, rfl, hd3, hb3⟩; have k3 := keepB hb3 k2; have fc0 := cell_of_row w3 _ 0 _ _ _ k3; have fc1 := cell_of_row w3 _ 1 _ _ _ k3; have ff0 := frozen_of_row w3 _ 0 _ _ k3; have ff1 := frozen_of_row w3 _ 1 _ _ k3; simp at fc0 fc1; clear k2 ec0 ec1 ef0 ef1)
    | (go_at_call 15; refine (aw_Load1 _ _ (hd3.sets hA2).rep).mono ?_; rintro e w4 ⟨a4, n4, rfl, ho4, hb4⟩; have k4 := keepB hb4 (heap_two1 (heap_two0 k3)); have gc0 := cell_of_row w4 _ 0 _ _ _ k4; have gc1 := cell_of_row w4 _ 1 _ _ _ k4; have gf0 := frozen_of_row w4 _ 0 _ _ k4; have gf1 := frozen_of_row w4 _ 1 _ _ k4; simp at gc0 gc1; have hd4 : OwnDisk w2.heap.size w4 _ _ aw1 := ⟨(hd3.sets hA2).1.below hb4, (hd3.sets hA2).2.below hb4⟩; have HB4 := Lib.hid hb4; clear hb4)
    | (go_at_call 17; refine (bytes_Equal _ _ [7, 8] [7, 8] _ (ho4.below (below_alloc w4 _)) (bytes78 rfl)).mono ?_; rintro e w5 ⟨rfl, hb5⟩; have k5 := keepB hb5 (keepB (below_alloc w4 _) k4); have hc0 := cell_of_row w5 _ 0 _ _ _ k5; have hc1 := cell_of_row w5 _ 1 _ _ _ k5; have hf0 := frozen_of_row w5 _ 0 _ _ k5; have hf1 := frozen_of_row w5 _ 1 _ _ k5; simp at hc0 hc1; have hd5 : OwnDisk w2.heap.size w5 _ _ aw1 := ⟨(hd4.1.below (below_alloc w4 _)).below hb5, (hd4.2.below (below_alloc w4 _)).below hb5⟩; obtain ⟨bs, os, rfl, hq0⟩ := hd5.1.slat.sec aw_s0; obtain ⟨bs', os', he', hq7⟩ := hd5.1.slat.sec aw_s7; injection he' with he'; injection he' with e1 e2 _; subst e1; subst e2; have p0 : w5.cell? ⟨bs, os, none⟩ = some (.int .u8 1) := hq0.1; have p1 : w5.cell? ⟨bs, os + 1, none⟩ = some (.int .u8 0) := hq0.2.1; have p2 : w5.cell? ⟨bs, os + 2, none⟩ = some (.int .u8 0) := hq0.2.2.1; have p3 : w5.cell? ⟨bs, os + 3, none⟩ = some (.int .u8 0) := hq0.2.2.2.1; have p4 : w5.cell? ⟨bs, os + 4, none⟩ = some (.int .u8 2) := hq0.2.2.2.2.1; have p5 : w5.cell? ⟨bs, os + 5, none⟩ = some (.int .u8 7) := hq0.2.2.2.2.2.1; have p6 : w5.cell? ⟨bs, os + 6, none⟩ = some (.int .u8 8) := hq0.2.2.2.2.2.2.1; have p7 : w5.cell? ⟨bs, os + 7, none⟩ = some (.int .u8 0) := hq0.2.2.2.2.2.2.2; have r0 : w5.cell? ⟨bs, os + 56, none⟩ = some (.int .u8 1) := hq7.1; have r1 : w5.cell? ⟨bs, os + 57, none⟩ = some (.int .u8 0) := hq7.2.1; have r2 : w5.cell? ⟨bs, os + 58, none⟩ = some (.int .u8 0) := hq7.2.2.1; have r3 : w5.cell? ⟨bs, os + 59, none⟩ = some (.int .u8 0) := hq7.2.2.2.1; have r4 : w5.cell? ⟨bs, os + 60, none⟩ = some (.int .u8 0) := hq7.2.2.2.2.1; have r5 : w5.cell? ⟨bs, os + 61, none⟩ = some (.int .u8 0) := hq7.2.2.2.2.2.1; have r6 : w5.cell? ⟨bs, os + 62, none⟩ = some (.int .u8 0) := hq7.2.2.2.2.2.2.1; have r7 : w5.cell? ⟨bs, os + 63, none⟩ = some (.int .u8 0) := hq7.2.2.2.2.2.2.2; clear hq0 hq7 gc0 gc1 gf0 gf1))
  go_wp2_with (first
    | (go_at_call 18; refine (aw_Store _ _ _ (hd5.rep.below (below_alloc w5 _)) (byte9 rfl)).mono ?_; rintro e w6 ⟨a6, n6, rfl, ho6, hb6⟩; have k6 := keepB hb6 (keepB (below_alloc w5 _) k5); have hA6 := (Array.getElem?_eq_some_iff.1 k6).1; have hd6 := (hd5.rep.below (below_alloc w5 _)).below hb6; clear p0 p1 p2 p3 p4 p5 p6 p7 r0 r1 r2 r3 r4 r5 r6 r7 hc0 hc1 hf0 hf1; have ec0 := cell_of_row w6 _ 0 _ _ _ k6; have ec1 := cell_of_row w6 _ 1 _ _ _ k6; have ef0 := frozen_of_row w6 _ 0 _ _ k6; have ef1 := frozen_of_row w6 _ 1 _ _ k6; simp at ec0 ec1)
    | (go_at_call 25; refine (aw_Run _ aw1 aw2 _ _ awOps2 2 hd6 ho6 aw_ok1 aw_room2 aw_at2 aw_run2 aw_d2 aw_len2 aw_c2).mono ?_; rintro e w7 ⟨sa7, sn7, ca7, cn7, rfl, hd7, hb7⟩; have k7 := keepB hb7 k6; have fc0 := cell_of_row w7 _ 0 _ _ _ k7; have fc1 := cell_of_row w7 _ 1 _ _ _ k7; have ff0 := frozen_of_row w7 _ 0 _ _ k7; have ff1 := frozen_of_row w7 _ 1 _ _ k7; simp at fc0 fc1; clear ec0 ec1 ef0 ef1)
    | (go_at_call 15; refine (aw_Load2 _ _ (hd7.sets hA6).rep).mono ?_; rintro e w8 ⟨a8, n8, rfl, ho8, hb8⟩; have k8 := keepB hb8 (heap_two1 (heap_two0 k7)); have gc0 := cell_of_row w8 _ 0 _ _ _ k8; have gc1 := cell_of_row w8 _ 1 _ _ _ k8; have gf0 := frozen_of_row w8 _ 0 _ _ k8; have gf1 := frozen_of_row w8 _ 1 _ _ k8; simp at gc0 gc1; have hd8 : OwnDisk w6.heap.size w8 _ _ aw2 := ⟨(hd7.sets hA6).1.below hb8, (hd7.sets hA6).2.below hb8⟩)
    | (go_at_call 17; refine (bytes_Equal _ _ [9] [9] _ (ho8.below (below_alloc w8 _)) (byte9 rfl)).mono ?_; rintro e w9 ⟨rfl, hb9⟩; have k9 := keepB hb9 (keepB (below_alloc w8 _) k8); have hc0 := cell_of_row w9 _ 0 _ _ _ k9; have hc1 := cell_of_row w9 _ 1 _ _ _ k9; have hf0 := frozen_of_row w9 _ 0 _ _ k9; have hf1 := frozen_of_row w9 _ 1 _ _ k9; simp at hc0 hc1; have hd9 : OwnDisk w6.heap.size w9 _ _ aw2 := ⟨(hd8.1.below (below_alloc w8 _)).below hb9, (hd8.2.below (below_alloc w8 _)).below hb9⟩; obtain ⟨bt, ot, rfl, hq8⟩ := hd9.1.slat.sec aw_s8; have t0 : w9.cell? ⟨bt, ot + 64, none⟩ = some (.int .u8 2) := hq8.1; have t1 : w9.cell? ⟨bt, ot + 65, none⟩ = some (.int .u8 0) := hq8.2.1; have t2 : w9.cell? ⟨bt, ot + 66, none⟩ = some (.int .u8 0) := hq8.2.2.1; have t3 : w9.cell? ⟨bt, ot + 67, none⟩ = some (.int .u8 0) := hq8.2.2.2.1; have t4 : w9.cell? ⟨bt, ot + 68, none⟩ = some (.int .u8 1) := hq8.2.2.2.2.1; have t5 : w9.cell? ⟨bt, ot + 69, none⟩ = some (.int .u8 9) := hq8.2.2.2.2.2.1; have t6 : w9.cell? ⟨bt, ot + 70, none⟩ = some (.int .u8 0) := hq8.2.2.2.2.2.2.1; have t7 : w9.cell? ⟨bt, ot + 71, none⟩ = some (.int .u8 0) := hq8.2.2.2.2.2.2.2; clear hq8 gc0 gc1 gf0 gf1)
    | (go_at_call 26; refine (sup_Capacity _).mono ?_; rintro e w10 ⟨rfl, hb10⟩)
    | fail)
  go_ret
  have hz1 : w.heap.size ≤ w1.heap.size := hb1.size
  have B3 : Below w.heap.size w w3 := below_step hB2 hb3
  have B4 : Below w.heap.size w w4 := below_step ((B3.setCell (p := ⟨w1.heap.size, 0, none⟩) hz1 _).setCell (p := ⟨w1.heap.size, 1, none⟩) hz1 _) HB4.out
  have B5 : Below w.heap.size w w5 := below_step (below_step B4 (below_alloc w4 _)) hb5
  have B7 : Below w.heap.size w w7 := below_step (below_step (below_step B5 (below_alloc w5 _)) hb6) hb7
  have B8 : Below w.heap.size w w8 := below_step ((B7.setCell (p := ⟨w1.heap.size, 0, none⟩) hz1 _).setCell (p := ⟨w1.heap.size, 1, none⟩) hz1 _) hb8
  exact ⟨rfl, below_step (below_step (below_step B8 (below_alloc w8 _)) hb9) hb10⟩
end Go.Proofs.YtnddgpkljpjjbaaDoor
