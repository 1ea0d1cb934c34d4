/- What every row of this seat's laws asks of the program, and how its arguments are opened. -/
import Derived.Test.YtnddgpkljpjjbaaDoorOpn
import Derived.Test.YtnddgpkljpjjbaaDoorTie
import Derived.Test.YtnddgpkljpjjbaaDoorCards
import Derived.ProofKit
import Derived.LaidMore
import Derived.Lay
import Derived.Stop.Joined
import Derived.ChangeOld
import Derived.Below
import Derived.Carry
namespace Go.Proofs.YtnddgpkljpjjbaaDoor
open Go.ChangeShapes Go.WideShapes Go.ChangeAt Go.RowKit
set_option maxRecDepth 100000
theorem own : ownKnob Tryd.prog.godebug = none := by kernel_rfl
theorem laidOut : laidOutB Tryd.prog = true := by kernel_rfl
theorem zSec : Tryd.prog.cellsOf 57 = 8 := by kernel_rfl
theorem zCached : Tryd.prog.cellsOf 109 = 9 := by kernel_rfl
theorem zByte : Tryd.prog.cellsOf 5 = 1 := by kernel_rfl
theorem zInt : Tryd.prog.cellsOf 3 = 1 := by kernel_rfl
theorem oSec : Opn Tryd.prog 57 Sec (fun _ => True) := opn_sec Tryd.underlying57 Tryd.underlying5 (by kernel_rfl) (by kernel_rfl)
theorem oSecs : Opn Tryd.prog 32 (List Sec) (fun l => ∀ x ∈ l, True) := opn_slice (α := Sec) (F := fun _ => True) Tryd.underlying32 zSec oSec
theorem oCached : Opn Tryd.prog 109 Cached (fun c => I64 c.at_) := opn_cached Tryd.underlying109 rfl rfl (by kernel_rfl) (by kernel_rfl) (by kernel_rfl) (opn_int Tryd.underlying3) oSec
theorem oCacheds : Opn Tryd.prog 33 (List Cached) (fun l => ∀ c ∈ l, I64 c.at_) := opn_slice (α := Cached) (F := fun c => I64 c.at_) Tryd.underlying33 zCached oCached
theorem oBytes : Opn Tryd.prog 22 (List UInt8) (fun l => ∀ x ∈ l, True) := opn_slice (α := UInt8) (F := fun _ => True) Tryd.underlying22 zByte (opn_byte Tryd.underlying5)
theorem openDisk {H : Type} {enc : TypeId × Value → H} {w : World} {v : Value} {b0 : Nat} {d : DataW H} {ps : List MemPlace} (hv : Value.okWide Tryd.prog w .any b0 35 v) (hd : DataW.Trod enc Tryd.prog w 0 (fun _ => true) true 35 v d ps) : ∃ k : Disk, DiskRep w v k ∧ ∀ c ∈ k.cache, I64 c.at_ :=
  opn_disk Tryd.underlying35 rfl rfl (by kernel_rfl) (by kernel_rfl) (by kernel_rfl) oSecs oCacheds hv hd
theorem openSl {H : Type} {enc : TypeId × Value → H} {w : World} {α : Type} [Rep α] {F : α → Prop} {t e : TypeId} {v : Value} {b0 : Nat} {d : DataW H} {ps : List MemPlace} (ht : Tryd.prog.underlying t = some (.slice e)) (ho : Opn Tryd.prog t (List α) (fun l => ∀ x ∈ l, F x)) (hv : Value.okWide Tryd.prog w .any b0 t v) (hd : DataW.Trod enc Tryd.prog w 0 (fun _ => true) true t v d ps) : ∃ l : List α, SlRep w v l ∧ ∀ x ∈ l, F x := by
  obtain ⟨a, n, c, rfl⟩ := okWide_slice ht hv
  obtain ⟨fuel, hd⟩ := hd
  obtain ⟨l, ⟨v', hv', hl⟩, hf⟩ := ho H enc w 0 _ _ fuel _ _ hd
  have hv' : [Value.slice a n c] = [v'] := hv'
  injection hv' with hv'
  subst hv'
  exact ⟨l, hl, hf⟩
end Go.Proofs.YtnddgpkljpjjbaaDoor
