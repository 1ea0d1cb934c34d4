/- The superblock: plain data and the generation of a sector. -/
import Derived.Test.YtnddgpkljpjjbaaDoorRef9
namespace Go.Proofs.YtnddgpkljpjjbaaDoor
open Go.RowKit
set_option linter.unusedVariables false
set_option linter.unusedSimpArgs false
def Sec.gen (s : Sec) : Nat := s.b0.toNat + 256 * s.b1.toNat + 65536 * s.b2.toNat + 16777216 * s.b3.toNat
theorem or_low (a b : Nat) (i : Nat) (ha : a < 2 ^ i) : a ||| (b * 2 ^ i) = a + b * 2 ^ i := by
  have := Nat.two_pow_add_eq_or_of_lt ha b
  rw [Nat.or_comm, Nat.mul_comm, ← this, Nat.add_comm]
theorem u8_lt (b : UInt8) : b.toNat < 256 := b.toNat_lt
theorem gen_u32 (s : Sec) : bits BinOp.or IntKind.u32 (bits BinOp.or IntKind.u32 (bits BinOp.or IntKind.u32 (↑s.b0.toNat % 4294967296) (↑s.b1.toNat % 4294967296 * 256 % 4294967296)) (↑s.b2.toNat % 4294967296 * 65536 % 4294967296)) (↑s.b3.toNat % 4294967296 * 16777216 % 4294967296) = (s.gen : Int) := by
  have h0 := u8_lt s.b0; have h1 := u8_lt s.b1; have h2 := u8_lt s.b2; have h3 := u8_lt s.b3
  unfold Sec.gen
  generalize s.b0.toNat = a at *; generalize s.b1.toNat = b at *; generalize s.b2.toNat = c at *; generalize s.b3.toNat = d at *
  rw [show ((a : Int) % 4294967296) = ((a : Nat) : Int) from by omega, show ((b : Int) % 4294967296 * 256 % 4294967296) = ((b * 2 ^ 8 : Nat) : Int) from by omega,
    show ((c : Int) % 4294967296 * 65536 % 4294967296) = ((c * 2 ^ 16 : Nat) : Int) from by omega, show ((d : Int) % 4294967296 * 16777216 % 4294967296) = ((d * 2 ^ 24 : Nat) : Int) from by omega]
  rw [u32_or_nat _ _ (by omega) (by omega), or_low _ _ 8 (by omega), u32_or_nat _ _ (by omega) (by omega), or_low _ _ 16 (by omega), u32_or_nat _ _ (by omega) (by omega), or_low _ _ 24 (by omega)]
  omega
set_option maxHeartbeats 1000000 in
theorem ref12_Generation (s : Sec) (w : World) :
    Calls Tryd.prog 35 #[.agg s.cells.toArray] w (RetB w (.int .u32 s.gen)) := by
  simp only [Sec.cells]
  go_enter Tryd.func35, Tryd.ntmps35
  go_wp2
  go_ret
  exact ⟨ret_int (gen_u32 s), below_alloc _ _⟩
theorem i64_or_nat (a b : Nat) (ha : a < 2 ^ 62) (hb : b < 2 ^ 62) : bits .or .i64 (a : Int) (b : Int) = ((a ||| b : Nat) : Int) := by
  have hx : a ||| b < 2 ^ 62 := Nat.or_lt_two_pow ha hb
  have oi : ∀ n : Nat, n < 2 ^ 62 → (BitVec.ofInt 64 (n : Int)).toNat = n := fun n hn => by
    rw [BitVec.ofInt_natCast, BitVec.toNat_ofNat]; exact Nat.mod_eq_of_lt (by omega)
  show IntKind.i64.wrap ((BitVec.ofInt 64 (a : Int) ||| BitVec.ofInt 64 (b : Int)).toNat : Int) = _
  rw [BitVec.toNat_or, oi a ha, oi b hb, IntKind.wrap_i64]
  omega
theorem gen_i64 (s : Sec) : (bits BinOp.or IntKind.i64 (wrap64 (bits BinOp.or IntKind.i64 (wrap64 (bits BinOp.or IntKind.i64 (wrap64 (bits BinOp.or IntKind.i64 0 (wrap64 ↑s.b3.toNat) * 256)) (wrap64 ↑s.b2.toNat) * 256)) (wrap64 ↑s.b1.toNat) * 256)) (wrap64 ↑s.b0.toNat)) = (s.gen : Int) := by
  have h0 := u8_lt s.b0; have h1 := u8_lt s.b1; have h2 := u8_lt s.b2; have h3 := u8_lt s.b3
  unfold Sec.gen
  generalize s.b0.toNat = a at *; generalize s.b1.toNat = b at *; generalize s.b2.toNat = c at *; generalize s.b3.toNat = d at *
  have wr : ∀ n : Nat, n < 2 ^ 62 → wrap64 (n : Int) = n := fun n hn => by unfold wrap64; omega
  rw [wr a (by omega), wr b (by omega), wr c (by omega), wr d (by omega)]
  have z : bits BinOp.or IntKind.i64 0 (d : Int) = (d : Int) := by
    have := i64_or_nat 0 d (by omega) (by omega)
    simpa using this
  rw [z]
  rw [show ((d : Int) * 256) = ((d * 2 ^ 8 : Nat) : Int) from by omega, wr _ (by omega), i64_or_nat _ _ (by omega) (by omega), Nat.or_comm, or_low _ _ 8 (by omega)]
  rw [show (((c + d * 2 ^ 8 : Nat) : Int) * 256) = (((c + d * 2 ^ 8) * 2 ^ 8 : Nat) : Int) from by omega, wr _ (by omega), i64_or_nat _ _ (by omega) (by omega), Nat.or_comm, or_low _ _ 8 (by omega)]
  rw [show (((b + (c + d * 2 ^ 8) * 2 ^ 8 : Nat) : Int) * 256) = (((b + (c + d * 2 ^ 8) * 2 ^ 8) * 2 ^ 8 : Nat) : Int) from by omega, wr _ (by omega), i64_or_nat _ _ (by omega) (by omega), Nat.or_comm, or_low _ _ 8 (by omega)]
  omega
set_option maxHeartbeats 2000000 in
theorem sup_generation (s : Sec) (w : World) :
    Calls Tryd.prog 34 #[.agg s.cells.toArray] w (RetB w (.int .i64 s.gen)) := by
  simp only [Sec.cells]
  go_enter Tryd.func34, Tryd.ntmps34
  go_wp2
  refine wp_loop_rounds 5 ?_
  rw [rounds_succ]
  go_wp2
  rw [rounds_succ]
  go_wp2
  rw [rounds_succ]
  go_wp2
  rw [rounds_succ]
  go_wp2
  rw [rounds_succ]
  go_wp2
  go_ret
  exact ⟨ret_int (gen_i64 s), below_alloc _ _⟩
end Go.Proofs.YtnddgpkljpjjbaaDoor
