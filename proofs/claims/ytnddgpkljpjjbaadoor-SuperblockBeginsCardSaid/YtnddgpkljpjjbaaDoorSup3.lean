/- bytes.TrimRight at the cutset of one zero byte; superblock.get. -/
import Derived.Test.YtnddgpkljpjjbaaDoorSup2
import Derived.Test.YtnddgpkljpjjbaaDoorLater
namespace Go.Proofs.YtnddgpkljpjjbaaDoor
open Go.RowKit
set_option linter.unusedVariables false
set_option linter.unusedSimpArgs false
/-- how many bytes are left when the zeros at the end are cut off -/
def Trimmed (xs : List UInt8) (m : Nat) : Prop := m ≤ xs.length ∧ (∀ (j : Nat) x, m ≤ j → xs[j]? = some x → x = 0) ∧ (∀ x, 0 < m → xs[m - 1]? = some x → x ≠ 0)
def RetTrim (w : World) (xs : List UInt8) (e : Ending) (w' : World) : Prop := ∃ a m c, e = .returned (.slice a m c) ∧ Trimmed xs m ∧ w = w'
set_option maxHeartbeats 2000000 in
theorem trimRightByte_zero (v : Value) (xs : List UInt8) (w : World) (hv : SlRep w v xs) :
    Calls Tryd.prog 65 #[v, .int .u8 0] w (RetTrim w xs) := by
  obtain ⟨a, c, rfl, hs, hc1, hc2, _⟩ := hv.ex
  go_enter Tryd.func65, Tryd.ntmps65
  go_wp2
  go_loop [0] (fun s => ∃ m : Nat, m ≤ xs.length ∧ s = .slice a m c ∧ (∀ (j : Nat) x, m ≤ j → xs[j]? = some x → x = 0)) (fun s => match s with | .slice _ n _ => n | _ => 0)
  case atStart => exact ⟨xs.length, Nat.le_refl _, rfl, fun j x hj hx => by have := (List.getElem?_eq_some_iff.1 hx).1; omega⟩
  case round =>
    obtain ⟨m, hm, rfl, hz⟩ := hrel
    have HZ := Lib.hid hz; clear hz
    by_cases h0 : 0 < m
    · obtain ⟨x, hx⟩ : ∃ x, xs[m - 1]? = some x := ⟨_, List.getElem?_eq_getElem (by omega)⟩
      obtain ⟨b, o, rfl, q0⟩ := hs.u8 hx
      have HX := Lib.hid hx; clear hx
      obtain ⟨k, rfl⟩ : ∃ k, m = k + 1 := ⟨m - 1, by omega⟩
      simp only [Nat.add_sub_cancel] at q0 HX
      by_cases hx0 : x = 0
      · have hb0 : ((x.toNat : Int) == 0) = true := by subst hx0; rfl
        go_wp2
        go_round
        case rel => exact ⟨k, by omega, rfl, fun j y hj hy => by
          rcases Nat.lt_or_ge k j with h | h
          · exact HZ.out j y (by omega) hy
          · obtain rfl : j = k := by omega
            rw [HX.out] at hy; injection hy with hy; rw [← hy]; exact hx0⟩
        case measure => simp
      · have hb0 : ((x.toNat : Int) == 0) = false := by
          rw [beq_eq_false_iff_ne]; intro h; exact hx0 (UInt8.toNat_inj.1 (by simpa using h))
        go_wp2
        go_ret
        refine ⟨_, _, _, rfl, ⟨hm, HZ.out, fun y _ hy => ?_⟩, rfl⟩
        simp only [Nat.add_sub_cancel] at hy
        rw [HX.out] at hy; injection hy with hy; rw [← hy]; exact hx0
    · obtain rfl : m = 0 := by omega
      go_wp2
      go_ret
      exact ⟨_, _, _, rfl, ⟨hm, HZ.out, fun y h => absurd h (by omega)⟩, rfl⟩
set_option maxHeartbeats 2000000 in
set_option maxRecDepth 100000 in
theorem trimRight_zero (v : Value) (xs : List UInt8) (w : World) (hv : SlRep w v xs) :
    Calls Tryd.prog 59 #[v, .string ⟨#[0]⟩] w (RetTrim w xs) := by
  obtain ⟨a, c, rfl, hs, hc1, hc2, _⟩ := hv.ex
  by_cases h0 : xs.length = 0
  · have hx : xs = [] := List.eq_nil_of_length_eq_zero h0
    subst hx
    go_enter Tryd.func59, Tryd.ntmps59
    go_wp2
    go_ret
    exact ⟨_, _, _, rfl, ⟨by simp, by simp, by simp⟩, rfl⟩
  · have hb : ((xs.length : Int) == 0) = false := by rw [beq_eq_false_iff_ne]; omega
    have H0 := Lib.hid h0; clear h0
    go_enter Tryd.func59, Tryd.ntmps59
    go_wp2_with (go_at_call 65; refine (trimRightByte_zero _ xs _ hv).mono ?_; rintro e w' ⟨a', m, c', rfl, ht, rfl⟩)
    go_ret
    exact ⟨_, _, _, rfl, ht, rfl⟩
end Go.Proofs.YtnddgpkljpjjbaaDoor
