/- disk.New, few, SameSectors, bytes.Equal, Capacity. -/
import Derived.Test.YtnddgpkljpjjbaaDoorMake
import Derived.Test.YtnddgpkljpjjbaaDoorLater
import Derived.Shelf.Bytes.SlSmallAll
import Derived.Lib.LazyBuf
namespace Go.Proofs.YtnddgpkljpjjbaaDoor
open Go.RowKit
set_option linter.unusedVariables false
set_option linter.unusedSimpArgs false
/-- the value and a number of no error, over a disk -/
def RetDisk (w : World) (d : Disk) (e : Ending) (w' : World) : Prop := ∃ v, e = .returned (.tuple #[v, .int .i64 0]) ∧ DiskRep w' v d ∧ Below w.heap.size w w'
theorem SlRep.of_block {α : Type} [PlainRep α] {w w' : World} {g o n c : Nat} {xs : List α} (h : SlRep w (.slice (some ⟨g, o, none⟩) n c) xs) (hg : w'.heap[g]? = w.heap[g]?) : SlRep w' (.slice (some ⟨g, o, none⟩) n c) xs := by
  obtain ⟨a, c', e, hs, h1, h2, h3⟩ := h.ex
  injection e with e1 e2 e3
  subst e1; subst e3
  exact ⟨_, _, by rw [e2], hs.of_block hg, h1, h2, h3⟩
set_option maxHeartbeats 2000000 in
theorem disk_New (n : Nat) (w : World) (hn : n ≤ 4096) :
    Calls Tryd.prog 24 #[.int .i64 n] w (RetDisk w ⟨List.replicate n Sec.zero, []⟩) := by
  go_enter Tryd.func24, Tryd.ntmps24
  go_wp2_with (at_make; refine wpList_make_Own (α := Sec) rfl (.tmp 11) (.tmp 11) 32 57 rfl 8 Sec.zero el0Sec w.heap.size .i64 .i64 n n n rfl rfl rfl rfl (by omega) (by omega) (by simp) ?_; intro w1 ho1 hg1; have hk := keepG hg1 (heap_alloc_new w _) (by simp); have ec0 := cell_of_row w1 _ 0 _ _ _ hk; have ec1 := cell_of_row w1 _ 1 _ _ _ hk; have ef0 := frozen_of_row w1 _ 0 _ _ hk; have ef1 := frozen_of_row w1 _ 1 _ _ hk; simp at ec0 ec1)
  refine bodyPost_ret (v := .tuple #[.agg #[.slice (some ⟨w.heap.size + 1, 0, none⟩) n n, .slice none 0 0], .int .i64 0]) (by simp [results, Tryd.results24, go_sem, ec0, ec1]) rfl ?_
  have hB1 : Below w.heap.size w w1 := (below_alloc w _).grown hg1 (by simp) (by intro k hk; cases hk)
  have hsl : SlRep w1 (.slice (some ⟨w.heap.size + 1, 0, none⟩) n n) (List.replicate n Sec.zero) := by simpa using ho1.sl
  refine ⟨_, rfl, ⟨_, _, rfl, hsl.of_block ((block_set (by omega)).trans (block_set (by omega))), SlRep.nil _⟩, (hB1.setCell (p := ⟨w.heap.size, 0, none⟩) (by simp) _).setCell (p := ⟨w.heap.size, 1, none⟩) (by simp) _⟩
theorem sup_Capacity (w : World) : Calls Tryd.prog 26 #[] w (RetB w (.int .i64 31)) := by
  go_enter Tryd.func26, Tryd.ntmps26
  go_wp2
  go_ret
  exact ⟨rfl, Below.refl _ _⟩
theorem few_ (v : Value) (d : Disk) (w : World) (hd : DiskRep w v d) :
    Calls Tryd.prog 14 #[v] w (RetB w (.bool (decide (d.stable.length ≤ 80 ∧ d.cache.length ≤ 80)))) := by
  obtain ⟨s, c, rfl, h1, h2⟩ := hd.ex
  obtain ⟨a1, c1, rfl, hs1, _⟩ := h1.ex
  obtain ⟨a2, c2, rfl, hs2, _⟩ := h2.ex
  go_enter Tryd.func14, Tryd.ntmps14
  by_cases h : d.stable.length ≤ 80
  · go_wp2
    go_ret
    exact ⟨ret_bool (by simp [h]; omega), below_alloc _ _⟩
  · go_wp2
    go_ret
    exact ⟨ret_bool (by simp [h]), below_alloc _ _⟩
theorem bytesIn_of {w : World} {a : Option Addr} {xs : List UInt8} (h : SlAt w a xs) : Lib.BytesIn w a xs.length (xs.map fun x => (x.toNat : Int)) := fun hn => by
  obtain ⟨x, hx⟩ : ∃ x, xs[0]? = some x := ⟨_, List.getElem?_eq_getElem hn⟩
  obtain ⟨b, o, rfl, _⟩ := h.u8 hx
  refine ⟨b, o, rfl, fun i hi => ?_⟩
  have := h.u8' (i := i) (x := xs[i]) (List.getElem?_eq_getElem hi)
  rw [this]
  simp [List.getD_eq_getElem?_getD, hi]
theorem bytesIn_convert {P : Program} {w : World} {p : Option Addr} {n : Nat} {xs : List Int} (h : Lib.BytesIn w p n xs) (hx : xs.length = n) (c : Nat) (src e dst : TypeId)
    (hs : P.underlying src = some (.slice e)) (he : P.underlying e = some (.int .u8)) (hd : P.underlying dst = some .string) :
    (convert src dst (.slice p n c)).run P w = .ok (.string (strOfNums xs)) w := by
  rcases Nat.eq_zero_or_pos n with hn | hn
  · subst hn
    obtain rfl : xs = [] := List.eq_nil_of_length_eq_zero hx
    exact run_convert_bytes_zero w src e hs he p c dst hd
  · obtain ⟨b, o, rfl, hc⟩ := h.at hn
    exact run_convert_bytes_arg (P := P) w src e hs he b o n c xs hx hc dst hd
theorem strOf_toList (xs : List UInt8) : (strOfNums (xs.map fun x => (x.toNat : Int))).toList = xs := by
  rw [Lib.strOfNums_toList, Lib.bytesOf, List.map_map]
  conv => rhs; rw [← List.map_id xs]
  exact List.map_congr_left fun x _ => by simp
set_option maxHeartbeats 1000000 in
theorem bytes_Equal (u v : Value) (xs ys : List UInt8) (w : World) (hu : SlRep w u xs) (hv : SlRep w v ys) :
    Calls Tryd.prog 17 #[u, v] w (RetB w (.bool (decide (xs = ys)))) := by
  obtain ⟨a1, c1, rfl, hs1, _⟩ := hu.ex
  obtain ⟨a2, c2, rfl, hs2, _⟩ := hv.ex
  have e1 := bytesIn_convert (P := Tryd.prog) (bytesIn_of hs1) (by simp) c1 22 5 9 Tryd.underlying22 Tryd.underlying5 Tryd.underlying9
  have e2 := bytesIn_convert (P := Tryd.prog) (bytesIn_of hs2) (by simp) c2 22 5 9 Tryd.underlying22 Tryd.underlying5 Tryd.underlying9
  have H1 := Lib.hid (strOf_toList xs); have H2 := Lib.hid (strOf_toList ys)
  generalize strOfNums (xs.map fun x => (x.toNat : Int)) = s1 at *
  generalize strOfNums (ys.map fun x => (x.toNat : Int)) = s2 at *
  go_enter Tryd.func17, Tryd.ntmps17
  go_wp2
  go_ret
  exact ⟨ret_bool (by rw [H1.out, H2.out, Bool.eq_iff_iff]; exact ⟨fun h => decide_eq_true (eq_of_beq h), fun h => beq_of_eq (of_decide_eq_true h)⟩), Below.refl _ _⟩
end Go.Proofs.YtnddgpkljpjjbaaDoor
