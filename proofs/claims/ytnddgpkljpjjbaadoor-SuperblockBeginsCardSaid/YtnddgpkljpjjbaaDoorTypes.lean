/- What the translation's table says of the types that are met. -/
import Derived.Test.YtnddgpkljpjjbaaDoorBase
import Derived.Test.YtnddgpkljpjjbaaDoorProg
namespace Go.Proofs.YtnddgpkljpjjbaaDoor
open Go.RowKit
theorem elem_mk {P : Program} {t e : TypeId} {z : Value} {size bytes : Nat} (ht : P.underlying t = some (.slice e)) (h : (P.info? e).map (fun i => (i.zero, i.size, i.bytes)) = some (some z, size, bytes)) (hz : z.cells.size = size) : Elem P t e size bytes := by
  obtain ⟨i, h1, h2, h3, h4⟩ := info_parts h
  exact ⟨ht, i, z, h1, h2, h3, h4, hz⟩
theorem elSec : Elem Tryd.prog 32 57 8 8 := elem_mk (z := .agg #[.int .u8 0, .int .u8 0, .int .u8 0, .int .u8 0, .int .u8 0, .int .u8 0, .int .u8 0, .int .u8 0]) Tryd.underlying32 (by kernel_rfl) rfl
theorem elCached : Elem Tryd.prog 33 109 9 16 := elem_mk (z := .agg #[.int .i64 0, .int .u8 0, .int .u8 0, .int .u8 0, .int .u8 0, .int .u8 0, .int .u8 0, .int .u8 0, .int .u8 0]) Tryd.underlying33 (by kernel_rfl) rfl
theorem elByte : Elem Tryd.prog 22 5 1 1 := elem_mk (z := .int .u8 0) Tryd.underlying22 (by kernel_rfl) rfl
theorem elInt : Elem Tryd.prog 52 3 1 8 := elem_mk (z := .int .i64 0) Tryd.underlying52 (by kernel_rfl) rfl
theorem szSec : (Tryd.prog.info? 57).map (·.size) = some 8 := by kernel_rfl
theorem szByte : (Tryd.prog.info? 5).map (·.size) = some 1 := by kernel_rfl
theorem szInt : (Tryd.prog.info? 3).map (·.size) = some 1 := by kernel_rfl
/-- A call that hands back a new slice of the elements xs. -/
def RetOwn {α : Type} [Rep α] (e : TypeId) (w : World) (xs : List α) (en : Ending) (w' : World) : Prop := ∃ v, en = .returned v ∧ Own w.heap.size e w' v xs ∧ Below w.heap.size w w'
/-- A slice that was made with no room. -/
theorem Own.empty {α : Type} [Rep α] (base e : Nat) (w : World) (hb : base ≤ w.heap.size) : Own base e (w.alloc (.cells #[] e)) (.slice (some ⟨w.heap.size, 0, none⟩) 0 0) ([] : List α) :=
  ⟨[], rfl, by simp, World.ownsRow_made w #[] 0 hb (by simp) (by simp)⟩
end Go.Proofs.YtnddgpkljpjjbaaDoor
