/- How a list of steps among the arguments is opened. -/
import Derived.Test.YtnddgpkljpjjbaaDoorFrame
import Derived.Test.YtnddgpkljpjjbaaDoorStep0
namespace Go.Proofs.YtnddgpkljpjjbaaDoor
open Go.ChangeShapes Go.WideShapes Go.ChangeAt Go.RowKit
set_option maxRecDepth 100000
theorem zStep : Tryd.prog.cellsOf 54 = 3 := by kernel_rfl
theorem oInts : Opn Tryd.prog 52 (List Int) (fun l => ∀ x ∈ l, I64 x) := opn_slice (α := Int) (F := I64) Tryd.underlying52 zInt (opn_int Tryd.underlying3)
theorem oStep : Opn Tryd.prog 54 StepD StepOk := opn_step Tryd.underlying54 rfl rfl rfl (by kernel_rfl) (by kernel_rfl) (by kernel_rfl) (by kernel_rfl) oBytes (opn_byte Tryd.underlying5) oInts
theorem oSteps : Opn Tryd.prog 46 (List StepD) (fun l => ∀ s ∈ l, StepOk s) := opn_slice (α := StepD) (F := StepOk) Tryd.underlying46 zStep oStep
theorem openStep {H : Type} {enc : TypeId × Value → H} {w : World} {v : Value} {b0 : Nat} {d : DataW H} {ps : List MemPlace} (hv : Value.okWide Tryd.prog w .any b0 54 v) (hd : DataW.Trod enc Tryd.prog w 0 (fun _ => true) true 54 v d ps) : ∃ s : StepD, (∃ a c, v = .agg #[a, .int .u8 s.after.toNat, c] ∧ SlRep w a s.payload ∧ SlRep w c s.choices) ∧ StepOk s := by
  obtain ⟨cs, rfl, hsz⟩ := okWide_struct Tryd.underlying54 hv
  obtain ⟨fuel, hd⟩ := hd
  obtain ⟨s, ⟨a, c, e, ha, hc⟩, hs⟩ := oStep H enc w 0 _ _ fuel _ _ hd
  refine ⟨s, ⟨a, c, ?_, ha, hc⟩, hs⟩
  obtain ⟨cs⟩ := cs
  have e' : cs = [a, .int .u8 s.after.toNat, c] := e
  rw [e']
end Go.Proofs.YtnddgpkljpjjbaaDoor
