/- The reference's copyOf: the sectors of a copy. -/
import Derived.Test.YtnddgpkljpjjbaaDoorMake
import Derived.Test.YtnddgpkljpjjbaaDoorLater
namespace Go.Proofs.YtnddgpkljpjjbaaDoor
open Go.RowKit
set_option linter.unusedVariables false
set_option linter.unusedSimpArgs false
def byteN (g k : Nat) : UInt8 := UInt8.ofNat (g / 256 ^ k)
def mkSec (g : Nat) (a b c d : UInt8) : Sec := ⟨byteN g 0, byteN g 1, byteN g 2, byteN g 3, a, b, c, d⟩
/-- the 32 bytes of a copy, and how they stand when k bytes of the payload are laid -/
def copyDataTo (n : Nat) (xs : List UInt8) (k : Nat) : List UInt8 := UInt8.ofNat n :: (xs.take k ++ List.replicate (31 - k) 0)
def copyData (xs : List UInt8) : List UInt8 := copyDataTo xs.length xs xs.length
def copySec (g : Nat) (D : List UInt8) (j : Nat) : Sec := mkSec g (D.getD (4 * j) 0) (D.getD (4 * j + 1) 0) (D.getD (4 * j + 2) 0) (D.getD (4 * j + 3) 0)
def copySecs (g : Nat) (xs : List UInt8) : List Sec := (List.range 8).map (copySec g (copyData xs))
theorem copyDataTo_length (n : Nat) (xs : List UInt8) (k : Nat) (hk : k ≤ xs.length) (h : xs.length ≤ 31) : (copyDataTo n xs k).length = 32 := by
  simp [copyDataTo]; omega
theorem copyDataTo_step (n : Nat) (xs : List UInt8) (k : Nat) (x : UInt8) (hx : xs[k]? = some x) (h : xs.length ≤ 31) : (copyDataTo n xs k).set (k + 1) x = copyDataTo n xs (k + 1) := by
  have hk := (List.getElem?_eq_some_iff.1 hx).1
  simp only [copyDataTo, List.set_cons_succ]
  congr 1
  rw [List.set_append_right _ _ (by simp; omega), take_snoc xs k x hx, List.append_assoc]
  congr 1
  rw [List.length_take, Nat.min_eq_left (by omega), Nat.sub_self]
  obtain ⟨m, hm⟩ : ∃ m, 31 - k = m + 1 := ⟨30 - k, by omega⟩
  rw [hm, List.replicate_succ, List.set_cons_zero, show 31 - (k + 1) = m from by omega]
  rfl
/-- One element in a block of its own. -/
theorem SlRep.single {α : Type} [Rep α] {w : World} {cs : Array Value} {t : TypeId} {x : α} (h : Rep.is (w.alloc (.cells cs t)) cs.toList x) : SlRep (w.alloc (.cells cs t)) (.slice (some ⟨w.heap.size, 0, none⟩) 1 1) [x] := by
  refine ⟨_, 1, rfl, fun _ => ⟨w.heap.size, 0, rfl, fun i y hy => ?_⟩, by simp, by omega, fun h => by cases h⟩
  have hi : i = 0 := by
    rcases i with _ | i
    · rfl
    · simp at hy
  subst hi
  simp at hy; subst hy
  refine ⟨cs.toList, fun j u hu => ?_, h⟩
  rw [cell_of_row _ _ _ cs t (0, 0) (heap_alloc_new w _)]
  simpa using hu
theorem SlRep.single' {α : Type} [Rep α] {w : World} {cs : Array Value} {t : TypeId} {x : α} {b : Nat} (hb : b = w.heap.size) (h : Rep.is (w.alloc (.cells cs t)) cs.toList x) : SlRep (w.alloc (.cells cs t)) (.slice (some ⟨b, 0, none⟩) 1 1) [x] := by
  subst hb; exact SlRep.single h
theorem SlRep.two {α : Type} [Rep α] {w : World} {cs : Array Value} {t : TypeId} {xs : List α} (css : List (List Value)) (h0 : css.length = xs.length) (h1 : ∀ (i : Nat) (x : α) (c : List Value), xs[i]? = some x → css[i]? = some c → Rep.is (w.alloc (.cells cs t)) c x) (h2 : css.flatten = cs.toList) (hm : xs.length ≤ 9223372036854775807) :
    SlRep (w.alloc (.cells cs t)) (.slice (some ⟨w.heap.size, 0, none⟩) xs.length xs.length) xs := by
  refine ⟨_, xs.length, rfl, fun _ => ⟨w.heap.size, 0, rfl, fun i y hy => ?_⟩, by simp, hm, fun h => by cases h⟩
  have hi : i < css.length := by have := (List.getElem?_eq_some_iff.1 hy).1; omega
  refine ⟨css[i], fun j u hu => ?_, h1 i y _ hy (List.getElem?_eq_getElem hi)⟩
  rw [cell_of_row _ _ _ cs t (0, 0) (heap_alloc_new w _)]
  have := flatten_get css (Own.lens h0 h1) i j css[i] u (List.getElem?_eq_getElem hi) hu
  rw [h2] at this
  rw [Nat.zero_add]
  simpa using this
theorem rep_u8 {w : World} {n : Nat} {x : UInt8} (h : x.toNat = n) : Rep.is w [Value.int .u8 (n : Int)] x := by subst h; rfl
theorem ofNat_lt {n : Nat} (h : n < 256) : (UInt8.ofNat n).toNat = n := by simp; omega
theorem mkSec_is {g : Nat} {x0 x1 x2 x3 : UInt8} {w : World} (hg : g < 4294967296) : Rep.is w (#[Value.int .u8 (↑g % 256), .int .u8 (↑g / 256 % 256), .int .u8 (↑g / 65536 % 256), .int .u8 (↑g / 16777216), .int .u8 x0.toNat, .int .u8 x1.toNat, .int .u8 x2.toNat, .int .u8 x3.toNat] : Array Value).toList (mkSec g x0 x1 x2 x3) := by
  show _ = Sec.cells _
  simp [Sec.cells, mkSec, byteN]
  omega
set_option maxRecDepth 100000 in
set_option maxHeartbeats 8000000 in
theorem ref12_copyOf (g : Nat) (v : Value) (xs : List UInt8) (w : World) (hg : g < 4294967296) (hv : SlRep w v xs) (hx : xs.length ≤ 31) :
    Calls Tryd.prog 29 #[.int .u32 g, v] w (RetOwn 57 w (copySecs g xs)) := by
  obtain ⟨a, c, rfl, hs, hc1, hc2, _⟩ := hv.ex
  go_enter Tryd.func29, Tryd.ntmps29
  have hl32 : (copyDataTo xs.length xs 0).length = 32 := copyDataTo_length _ _ _ (Nat.zero_le _) hx
  have hub : (UInt8.ofNat xs.length).toNat = xs.length := ofNat_lt (by omega)
  have HUB := Lib.hid hub; clear hub
  have hset : (List.replicate 32 (0 : UInt8)).set 0 (UInt8.ofNat xs.length) = copyDataTo xs.length xs 0 := by simp [copyDataTo, List.replicate_succ]
  have HSET := Lib.hid hset; clear hset
  go_wp2_with (first
    | (at_make; refine wpList_make_Own (α := UInt8) rfl (.const (.int .i64 32)) (.const (.int .i64 32)) 22 5 rfl 1 0 el0Byte w.heap.size .i64 .i64 32 32 32 rfl rfl rfl rfl (by omega) (by omega) (Nat.le_refl _) ?_; intro w1 ho1 hg1)
    | ((with_reducible show wpList _ _ _ (⟨none, .store 5 (.tmp 16) (.tmp 15), _, _, _, _⟩ :: _) _ _); go_must (refine wpList_store_Own (α := UInt8) rfl 5 (.tmp 16) (.tmp 15) rfl szByte w.heap.size 5 w.heap.size 0 _ 32 32 _ (UInt8.ofNat xs.length) _ ho1 rfl rfl (rep_u8 HUB.out) (by simp) rfl ?_); intro w2 ho2 hg2))
  have hb1 := below_of_grown hg1
  have hB2 : Below w.heap.size w w2 := hb1.grown hg2 hb1.size (by intro k hk; cases hk; exact Nat.le_refl _)
  rw [show (List.replicate 32 (0 : UInt8)).set 0 (UInt8.ofNat xs.length) = copyDataTo xs.length xs 0 from HSET.out] at ho2
  have hlt2 : w.heap.size < w2.heap.size := (by obtain ⟨g', cap', e, h1, h2, _⟩ := ho2.shape (by omega); injection e with e; injection e with e; omega)
  clear ho1 hg1 hg2 hb1
  go_loopw [6] (fun i wr => ∃ k : Nat, k ≤ xs.length ∧ i = .int .i64 k ∧ Own w.heap.size 5 wr (.slice (some ⟨w.heap.size, 0, none⟩) 32 32) (copyDataTo xs.length xs k) ∧ Below w.heap.size w wr)
    (fun i _ => xs.length - (intOf i).toNat)
  case atStart => exact ⟨0, Nat.zero_le _, rfl, ho2, hB2⟩
  case round =>
    obtain ⟨k, hk, rfl, ho, hB⟩ := hrel
    clear ho2 hB2 hlt2
    by_cases hlt : k < xs.length
    · obtain ⟨x, hx'⟩ : ∃ x, xs[k]? = some x := ⟨_, List.getElem?_eq_getElem hlt⟩
      obtain ⟨b, o, rfl, q0⟩ := (hs.below hB).u8 hx'
      have HX := Lib.hid hx'; clear hx'
      have hlk : (copyDataTo xs.length xs k).length = 32 := copyDataTo_length _ _ _ hk hx
      have HLK := Lib.hid hlk; clear hlk hl32
      go_wp2_with ((with_reducible show wpList _ _ _ (⟨none, .store 5 (.tmp 30) (.tmp 29), _, _, _, _⟩ :: _) _ _); go_must (refine wpList_store_Own (α := UInt8) rfl 5 (.tmp 30) (.tmp 29) rfl szByte w.heap.size 5 w.heap.size (k + 1) _ 32 32 _ x _ ho rfl rfl rfl (by rw [HLK.out]; omega) (by simp [Rep.size]) ?_); intro w3 ho3 hg3)
      have hB3 : Below w.heap.size w w3 := hB.grown hg3 hB.size (by intro k hk; cases hk; exact Nat.le_refl _)
      go_roundw
      case rel => exact ⟨k + 1, by omega, by go_num, by rw [copyDataTo_step _ _ _ _ HX.out hx] at ho3; exact ho3, hB3⟩
      case measure => simp [intOf]; omega
    · obtain rfl : k = xs.length := by omega
      have hD : copyDataTo xs.length xs xs.length = copyData xs := rfl
      rw [hD] at ho
      have hDl : (copyData xs).length = 32 := copyDataTo_length _ _ _ (Nat.le_refl _) hx
      have hsl := ho.slat
      have HDL := Lib.hid hDl; clear hDl hD hl32
      have hlt4 : w.heap.size < wr.heap.size := (by obtain ⟨g', cap', e, h1, h2, _⟩ := ho.shape (by rw [HDL.out]; omega); injection e with e; injection e with e; omega)
      go_wp2
      go_loopw [7, 8] (fun ov i wq => ∃ j : Nat, j ≤ 8 ∧ i = .int .i64 (4 * j : Nat) ∧ Own (w.heap.size + 1) 57 wq ov ((copySecs g xs).take j) ∧ Own w.heap.size 5 wq (.slice (some ⟨w.heap.size, 0, none⟩) 32 32) (copyData xs) ∧ Below w.heap.size w wq ∧ w.heap.size < wq.heap.size)
        (fun _ i _ => 32 - (intOf i).toNat)
      case atStart => exact ⟨0, by omega, rfl, Own.nil _ _ _, ho, hB, hlt4⟩
      case round =>
        obtain ⟨j, hj, rfl, hov, hod, hBq, hltq⟩ := hrel
        clear ho hsl hlt4
        by_cases hlt8 : j < 8
        · have t1 : 4 * j + 3 < 32 := by omega
          obtain ⟨t, ht⟩ : ∃ t, t = 4 * j := ⟨_, rfl⟩
          rw [← ht] at t1 ⊢
          have hsq := hod.slat
          obtain ⟨x0, hx0⟩ : ∃ x, (copyData xs)[t]? = some x := ⟨_, List.getElem?_eq_getElem (by rw [HDL.out]; omega)⟩
          obtain ⟨x1, hx1⟩ : ∃ x, (copyData xs)[t + 1]? = some x := ⟨_, List.getElem?_eq_getElem (by rw [HDL.out]; omega)⟩
          obtain ⟨x2, hx2⟩ : ∃ x, (copyData xs)[t + 2]? = some x := ⟨_, List.getElem?_eq_getElem (by rw [HDL.out]; omega)⟩
          obtain ⟨x3, hx3⟩ : ∃ x, (copyData xs)[t + 3]? = some x := ⟨_, List.getElem?_eq_getElem (by rw [HDL.out]; omega)⟩
          have c0 := hsq.u8' hx0; have c1 := hsq.u8' hx1; have c2 := hsq.u8' hx2; have c3 := hsq.u8' hx3
          simp only [Nat.zero_add] at c0 c1 c2 c3
          have hsec : (copySecs g xs)[j]? = some (mkSec g x0 x1 x2 x3) := by
            rw [ht] at hx0 hx1 hx2 hx3
            simp [copySecs, hlt8, copySec, List.getD_eq_getElem?_getD, hx0, hx1, hx2, hx3]
          have HT := Lib.hid ht; have HS := Lib.hid hsec; clear ht hsec hx0 hx1 hx2 hx3
          go_wp2
          refine wp_loop_rounds 5 ?_
          rw [rounds_succ]; go_wp2
          rw [rounds_succ]; go_wp2
          rw [rounds_succ]; go_wp2
          rw [rounds_succ]; go_wp2
          rw [rounds_succ]
          go_wp2_with (at_builtin; go_must (refine wpList_append_Own (α := Sec) rfl (.tmp 56) (.tmp 58) 32 57 rfl 8 elSec (w.heap.size + 1) _ _ _ [mkSec g x0 x1 x2 x3] rfl (hov.below (below_alloc2 wr _ _)) rfl (SlRep.single' (x := mkSec g x0 x1 x2 x3) (b := wr.heap.size + 1) (by simp) (mkSec_is hg)) (by simp; omega) (by simp; omega) (by simp; omega) ?_); intro v3 w3 ho3 hg3 hn3)
          have hB3 : Below w.heap.size w w3 := ((hBq.alloc hBq.size _).alloc (by have := hBq.size; simp; omega) _).grown hg3 (by have := hBq.size; simp; omega) (fun k hk => by have := hov.base k hk; omega)
          have hod3 : Own w.heap.size 5 w3 (.slice (some ⟨w.heap.size, 0, none⟩) 32 32) (copyData xs) := (hod.below (below_alloc2 wr _ _)).grown hg3 (.inr (fun e => hov.sound w.heap.size (by omega) e.symm))
          go_roundw
          case rel => exact ⟨j + 1, by omega, by rw [HT.out]; go_num, by rw [take_snoc _ j _ HS.out]; exact ho3, hod3, hB3, by have := hg3.size; simp at this; omega⟩
          case measure => simp [intOf]; omega
        · obtain rfl : j = 8 := by omega
          have hl8 : (copySecs g xs).take 8 = copySecs g xs := List.take_of_length_le (by simp [copySecs])
          rw [hl8] at hov
          go_wp2
          exact bodyPost_ret (v := u7) (by simp [results, Tryd.results29, go_sem]) rfl ⟨_, rfl, hov.lower (by omega), hBq⟩
end Go.Proofs.YtnddgpkljpjjbaaDoor
