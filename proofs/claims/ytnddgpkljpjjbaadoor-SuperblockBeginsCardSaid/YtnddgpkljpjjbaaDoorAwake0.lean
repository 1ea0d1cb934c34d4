/- awake: the plain side. -/
import Derived.Test.YtnddgpkljpjjbaaDoorRunD
namespace Go.Proofs.YtnddgpkljpjjbaaDoor
open Go.RowKit
set_option linter.unusedVariables false
def aw0 : Disk := ⟨List.replicate 20 Sec.zero, []⟩
def awOps : List OpD := fmtRes 0 [7, 8]
def aw1 : Disk := (runOps awOps aw0 0).1
def awOps2 : List OpD := storeRes aw1 0 [9]
def aw2 : Disk := (runOps awOps2 aw1 0).1
set_option maxRecDepth 100000
theorem aw_e0 : fmtErr 0 [7, 8] = 0 := by decide
theorem aw_ok0 : aw0.ok = true := by decide +kernel
theorem aw_run1 : (runOps awOps aw0 0).2 = (4, 0) := by decide +kernel
theorem aw_ok1 : aw1.ok = true := by decide +kernel
theorem aw_room1 : aw0.cache.length + room awOps ≤ 1000000 := by decide +kernel
theorem aw_at1 : ∀ o ∈ awOps, -9223372036854775808 ≤ o.at_ ∧ o.at_ ≤ 9223372036854775807 := by decide +kernel
theorem aw_in1 : insideB aw1.stable.length ((0 : Nat) : Int) 16 = true := by decide +kernel
theorem aw_gen1 : supGen aw1 0 = 1 := by decide +kernel
theorem aw_pay1 : supPay aw1 0 = [7, 8] := by decide +kernel
theorem aw_len1 : aw1.stable.length = 20 := by decide +kernel
theorem aw_s0 : aw1.stable[0]? = some ⟨1, 0, 0, 0, 2, 7, 8, 0⟩ := by decide +kernel
theorem aw_s7 : aw1.stable[7]? = some ⟨1, 0, 0, 0, 0, 0, 0, 0⟩ := by decide +kernel
theorem aw_e1 : storeErr aw1 0 [9] = 0 := by decide +kernel
theorem aw_run2 : (runOps awOps2 aw1 0).2 = (2, 0) := by decide +kernel
theorem aw_ok2 : aw2.ok = true := by decide +kernel
theorem aw_room2 : aw1.cache.length + room awOps2 ≤ 1000000 := by decide +kernel
theorem aw_at2 : ∀ o ∈ awOps2, -9223372036854775808 ≤ o.at_ ∧ o.at_ ≤ 9223372036854775807 := by decide +kernel
theorem aw_in2 : insideB aw2.stable.length ((0 : Nat) : Int) 16 = true := by decide +kernel
theorem aw_gen2 : supGen aw2 0 = 2 := by decide +kernel
theorem aw_pay2 : supPay aw2 0 = [9] := by decide +kernel
theorem aw_len2 : aw2.stable.length = 20 := by decide +kernel
theorem aw_s8 : aw2.stable[8]? = some ⟨2, 0, 0, 0, 1, 9, 0, 0⟩ := by decide +kernel
end Go.Proofs.YtnddgpkljpjjbaaDoor
