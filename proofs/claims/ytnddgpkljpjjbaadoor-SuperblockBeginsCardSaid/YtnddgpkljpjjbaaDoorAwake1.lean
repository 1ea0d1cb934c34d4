/- awake: the calls, at its own data. -/
import Derived.Test.YtnddgpkljpjjbaaDoorAwake0
import Derived.Test.YtnddgpkljpjjbaaDoorSup6
namespace Go.Proofs.YtnddgpkljpjjbaaDoor
open Go.RowKit
set_option linter.unusedVariables false
set_option linter.unusedSimpArgs false
set_option maxRecDepth 100000
/-- a disk of known lengths, and what else is returned -/
def RetD (w : World) (d : Disk) (n m : Nat) (more : Array Value) (e : Ending) (w' : World) : Prop :=
  ∃ sa sn ca cn, e = .returned (.tuple (#[.agg #[.slice sa n sn, .slice ca m cn]] ++ more)) ∧ DiskRep w' (.agg #[.slice sa n sn, .slice ca m cn]) d ∧ Below w.heap.size w w'
def RetDO (w : World) (d : Disk) (n m : Nat) (more : Array Value) (e : Ending) (w' : World) : Prop :=
  ∃ sa sn ca cn, e = .returned (.tuple (#[.agg #[.slice sa n sn, .slice ca m cn]] ++ more)) ∧ OwnDisk w.heap.size w' (.slice sa n sn) (.slice ca m cn) d ∧ Below w.heap.size w w'
theorem diskRep_len {w : World} {v : Value} {d : Disk} {n m : Nat} (h : DiskRep w v d) (hn : d.stable.length = n) (hm : d.cache.length = m) : ∃ sa sn ca cn, v = .agg #[.slice sa n sn, .slice ca m cn] := by
  obtain ⟨s, c, rfl, h1, h2⟩ := h.ex
  obtain ⟨sa, sn, rfl, _⟩ := h1.ex
  obtain ⟨ca, cn, rfl, _⟩ := h2.ex
  exact ⟨sa, sn, ca, cn, by rw [hn, hm]⟩
theorem slRep_len {α : Type} [Rep α] {w : World} {v : Value} {xs : List α} {n : Nat} (h : SlRep w v xs) (hn : xs.length = n) : ∃ a c, v = .slice a n c := by
  obtain ⟨a, c, rfl, _⟩ := h.ex
  exact ⟨a, c, by rw [hn]⟩
theorem aw_New (w : World) : Calls Tryd.prog 24 #[.int .i64 20] w (RetD w aw0 20 0 #[.int .i64 0]) := by
  refine (disk_New 20 w (by omega)).mono ?_
  rintro e w' ⟨v, rfl, hd, hb⟩
  obtain ⟨sa, sn, ca, cn, rfl⟩ := diskRep_len (n := 20) (m := 0) hd (by simp) rfl
  exact ⟨sa, sn, ca, cn, rfl, hd, hb⟩
theorem aw_Run (w : World) (d d' : Disk) (u v : Value) (ops : List OpD) (n : Nat) (hd : DiskRep w u d) (hv : SlRep w v ops) (hok : d.ok = true) (hroom : d.cache.length + room ops ≤ 1000000) (hat : ∀ o ∈ ops, -9223372036854775808 ≤ o.at_ ∧ o.at_ ≤ 9223372036854775807)
    (h2 : (runOps ops d 0).2 = (n, 0)) (h1 : d' = (runOps ops d 0).1) (hl : d'.stable.length = 20) (hc : d'.cache.length = 0) : Calls Tryd.prog 25 #[u, v] w (RetDO w d' 20 0 #[.int .i64 n, .int .i64 0]) := by
  refine (disk_Run w d u v ops hd hv hok hroom hat).mono ?_
  rintro e w' ⟨s, c, rfl, hx, hb⟩
  rw [h2] at hx ⊢
  rw [if_pos rfl, ← h1] at hx
  obtain ⟨sa, sn, ca, cn, he⟩ := diskRep_len (n := 20) (m := 0) hx.rep hl hc
  injection he with he
  simp only [Array.mk.injEq, List.cons.injEq, and_true] at he
  obtain ⟨rfl, rfl⟩ := he
  exact ⟨sa, sn, ca, cn, rfl, hx, hb⟩
def RetS {α : Type} [Rep α] (w : World) (xs : List α) (n : Nat) (more : Array Value) (e : Ending) (w' : World) : Prop :=
  ∃ a c, e = .returned (.tuple (#[.slice a n c] ++ more)) ∧ SlRep w' (.slice a n c) xs ∧ Below w.heap.size w w'
theorem aw_Format (w : World) (v : Value) (hv : SlRep w v ([7, 8] : List UInt8)) : Calls Tryd.prog 11 #[.int .i64 0, v] w (RetS w awOps 4 #[.int .i64 0]) := by
  refine (sup_Format 0 v [7, 8] w hv (by omega)).mono ?_
  rintro e w' ⟨x, rfl, hx, hb⟩
  obtain ⟨a, c, rfl⟩ := slRep_len (n := 4) hx (by decide)
  rw [aw_e0]
  exact ⟨a, c, rfl, hx, hb⟩
theorem aw_Store (w : World) (u v : Value) (hu : DiskRep w u aw1) (hv : SlRep w v ([9] : List UInt8)) : Calls Tryd.prog 18 #[u, .int .i64 0, v] w (RetS w awOps2 2 #[.int .i64 0]) := by
  refine (sup_Store u aw1 0 v [9] w hu (by omega) hv).mono ?_
  rintro e w' ⟨x, rfl, hx, hb⟩
  obtain ⟨a, c, rfl⟩ := slRep_len (n := 2) hx (by decide +kernel)
  rw [aw_e1]
  exact ⟨a, c, rfl, hx, hb⟩
theorem aw_Load1 (w : World) (u : Value) (hu : DiskRep w u aw1) : Calls Tryd.prog 15 #[u, .int .i64 0] w (RetS w ([7, 8] : List UInt8) 2 #[.int .i64 1, .int .i64 0]) := by
  refine (sup_Load_some u aw1 0 w hu aw_ok1 aw_in1 (by rw [aw_gen1]; decide)).mono ?_
  rintro e w' ⟨x, rfl, hx, hb⟩
  rw [aw_gen1]
  rw [aw_pay1] at hx
  obtain ⟨a, c, rfl⟩ := slRep_len (n := 2) hx rfl
  exact ⟨a, c, rfl, hx, hb⟩
theorem aw_Load2 (w : World) (u : Value) (hu : DiskRep w u aw2) : Calls Tryd.prog 15 #[u, .int .i64 0] w (RetS w ([9] : List UInt8) 1 #[.int .i64 2, .int .i64 0]) := by
  refine (sup_Load_some u aw2 0 w hu aw_ok2 aw_in2 (by rw [aw_gen2]; decide)).mono ?_
  rintro e w' ⟨x, rfl, hx, hb⟩
  rw [aw_gen2]
  rw [aw_pay2] at hx
  obtain ⟨a, c, rfl⟩ := slRep_len (n := 1) hx rfl
  exact ⟨a, c, rfl, hx, hb⟩
end Go.Proofs.YtnddgpkljpjjbaaDoor
