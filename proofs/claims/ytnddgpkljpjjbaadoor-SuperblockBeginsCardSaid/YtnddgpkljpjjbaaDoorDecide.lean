/- disk.decide. -/
import Derived.Test.YtnddgpkljpjjbaaDoorExec3
import Derived.Test.YtnddgpkljpjjbaaDoorOpn
namespace Go.Proofs.YtnddgpkljpjjbaaDoor
open Go.RowKit
set_option linter.unusedVariables false
set_option linter.unusedSimpArgs false
/-- a decision below n, and the choices that are left -/
def RetDecide (w : World) (v : Value) (l : List Int) (n : Nat) (e : Ending) (w' : World) : Prop := ∃ (k : Nat) (v' : Value) (l' : List Int), e = .returned (.tuple #[.int .i64 k, v']) ∧ k < n ∧ (∀ w0, SlRep w0 v l → SlRep w0 v' l') ∧ (∀ x ∈ l', I64 x) ∧ l'.length ≤ l.length ∧ Below w.heap.size w w'
theorem tmod_bounds (c : Int) (n : Nat) (hn : 0 < n) : -(n : Int) < c.tmod n ∧ c.tmod n < n := by
  have h1 := Int.tmod_lt_of_pos c (show (0 : Int) < n by omega)
  have h2 : -(n : Int) < c.tmod n := by
    rcases Int.le_total 0 c with hc | hc
    · have := Int.tmod_nonneg (n : Int) hc; omega
    · have := Int.tmod_lt_of_pos (-c) (show (0 : Int) < n by omega)
      rw [Int.neg_tmod] at this; omega
  exact ⟨h2, h1⟩
set_option maxHeartbeats 1000000 in
theorem disk_decide (v : Value) (l : List Int) (n : Nat) (w : World) (hv : SlRep w v l) (hl : ∀ x ∈ l, I64 x) (hn : 0 < n) (hm : n ≤ 2000000) :
    Calls Tryd.prog 51 #[v, .int .i64 n] w (RetDecide w v l n) := by
  obtain ⟨a, c, rfl, hs, hc1, hc2, hc3⟩ := hv.ex
  cases l with
  | nil =>
    go_enter Tryd.func51, Tryd.ntmps51
    go_wp2
    go_ret2
    exact ⟨0, _, [], rfl, hn, fun w0 _ => SlRep.nil _, by simp, by simp, Below.refl _ _⟩
  | cons x l =>
    obtain ⟨b, o, rfl, q0⟩ := hs.int (i := 0) (x := x) rfl
    simp only [Nat.add_zero] at q0
    have hx := hl x (by simp)
    have ht := tmod_bounds x n hn
    have hp : ¬ (n : Int) = 0 := by omega
    have e1 : IntKind.i64.wrap (x.tmod n) = x.tmod n := IntWalk.i64_in _ (by omega)
    have e2 : IntKind.i64.wrap (x.tmod n + n) = x.tmod n + n := IntWalk.i64_in _ (by omega)
    have ht2 := tmod_bounds (x.tmod n + n) n hn
    have ht3 := Int.tmod_nonneg (n : Int) (show 0 ≤ x.tmod n + n by omega)
    have e3 : IntKind.i64.wrap ((x.tmod n + n).tmod n) = (x.tmod n + n).tmod n := IntWalk.i64_in _ (by omega)
    obtain ⟨k, hk⟩ : ∃ k : Nat, (x.tmod n + n).tmod n = k := ⟨((x.tmod n + n).tmod n).toNat, by omega⟩
    simp only [List.length_cons] at hc1 ⊢
    go_enter Tryd.func51, Tryd.ntmps51
    go_wp2
    go_quiet (fail)
    go_wp2
    all_goals
      go_ret2
      have hkn : k < n := by omega
    · obtain rfl : l = [] := List.eq_nil_of_length_eq_zero (by omega)
      exact ⟨k, _, [], rfl, hkn, fun w0 _ => ⟨_, _, rfl, fun h => absurd rfl h, by simp, by omega, fun h => by first | rfl | cases h⟩, by simp, by simp, below_drewN (Below.refl _ _) _⟩
    · refine ⟨k, _, l, rfl, hkn, fun w0 h0 => ?_, fun y hy => hl y (by simp [hy]), by simp, below_drewN (Below.refl _ _) _⟩
      have hsub := h0.slat.sub (a' := some ⟨b, o + 1, none⟩) 1 l.length (by simp; omega) (fun _ => rfl)
      rw [List.drop_succ_cons, List.drop_zero, List.take_length] at hsub
      exact ⟨_, _, rfl, hsub, by omega, by omega, fun h => by cases h⟩
set_option maxHeartbeats 1000000 in
theorem clone_int (v : Value) (xs : List Int) (w : World) (hv : SlRep w v xs) (hb : xs.length * 8 ≤ 140737488355328) :
    Calls Tryd.prog 52 #[v] w (RetOwn 3 w xs) := by
  obtain ⟨a, c, rfl, hs, hc, hc2, hnil⟩ := hv.ex
  have HB := Lib.hid hb; clear hb
  cases a with
  | none =>
    obtain rfl := hnil rfl
    have hx : xs = [] := List.eq_nil_of_length_eq_zero (by omega)
    subst hx
    have hq := fun w : World => Lib.run_eql_slice_nil (P := Tryd.prog) w 52 3 none 0 0 0 0 Tryd.underlying52
    go_enter Tryd.func52, Tryd.ntmps52
    go_wp2
    go_ret
    exact ⟨_, rfl, Own.nil _ _ _, Below.refl _ _⟩
  | some a =>
    have hq := fun w : World => Lib.run_eql_slice_nil (P := Tryd.prog) w 52 3 (some a) xs.length c 0 0 Tryd.underlying52
    go_enter Tryd.func52, Tryd.ntmps52
    go_wp2_with (at_builtin; go_must (refine wpList_append_Own (α := Int) rfl (.tmp 5) (.tmp 6) 52 3 rfl 8 elInt w.heap.size _ _ [] xs rfl (Own.empty _ _ _ (Nat.le_refl _)) rfl (hv.below ((Below.refl _ _).alloc (Nat.le_refl _) _)) (by simp; omega) (by simpa using HB.out) (by simp) ?_); intro v1 w1 ho1 hg1 hn1)
    go_ret
    have hB : Below w.heap.size w w1 := ((Below.refl _ _).alloc (Nat.le_refl _) _).grown hg1 (by simp) (by intro k hk; cases hk; exact Nat.le_refl _)
    exact ⟨_, rfl, by simpa using ho1, hB⟩
end Go.Proofs.YtnddgpkljpjjbaaDoor
