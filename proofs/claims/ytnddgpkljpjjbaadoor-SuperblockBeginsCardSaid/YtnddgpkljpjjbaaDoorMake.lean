/- make([]T, n): a law of the walk that speaks of the elements. -/
import Derived.Test.YtnddgpkljpjjbaaDoorSup7
namespace Go.Proofs.YtnddgpkljpjjbaaDoor
open Go.RowKit
set_option linter.unusedVariables false
set_option linter.unusedSimpArgs false
theorem madeCells_flat (z : Array Value) (k n : Nat) (hz : z.size = k) (hk : 0 < k) : (madeCells z (n * k)).toList = (List.replicate n z.toList).flatten := by
  apply List.ext_getElem?
  intro i
  by_cases hi : i < n * k
  · have hd : i / k < n := by rw [Nat.div_lt_iff_lt_mul hk]; exact hi
    have hm : i % k < k := Nat.mod_lt _ hk
    have h1 := flatten_get (k := k) (List.replicate n z.toList) (by intro cs hcs; rw [(List.mem_replicate.1 hcs).2]; simpa using hz) (i / k) (i % k) z.toList (z[i % k]'(by omega)) (by simp [hd]) (by simp [hz, hm])
    rw [show i / k * k + i % k = i from by rw [Nat.mul_comm]; exact Nat.div_add_mod i k] at h1
    rw [h1]
    simp only [madeCells, Array.toList_map, List.getElem?_map]
    simp [hi, hz, hm, getElem!_pos]
  · have h1 : (madeCells z (n * k)).toList.length = n * k := by simp [size_madeCells]
    have h2 : (List.replicate n z.toList).flatten.length = n * k := by
      rw [flatten_length (k := k)]
      · simp
      · intro cs hcs; rw [(List.mem_replicate.1 hcs).2]; simpa using hz
    rw [List.getElem?_eq_none (by omega), List.getElem?_eq_none (by omega)]
structure Elem0 {α : Type} [Rep α] (P : Program) (t e : TypeId) (bytes : Nat) (x0 : α) : Prop where
  ex : P.underlying t = some (.slice e) ∧ ∃ i z, P.info? e = some i ∧ i.zero = some z ∧ i.size = Rep.size α ∧ i.bytes = bytes ∧ z.cells.size = Rep.size α ∧ ∀ w, Rep.is w z.cells.toList x0
theorem elem0_mk {α : Type} [Rep α] {P : Program} {t e : TypeId} {z : Value} {bytes : Nat} {x0 : α} (ht : P.underlying t = some (.slice e)) (h : (P.info? e).map (fun i => (i.zero, i.size, i.bytes)) = some (some z, Rep.size α, bytes)) (hz : z.cells.size = Rep.size α) (hx : ∀ w, Rep.is w z.cells.toList x0) : Elem0 P t e bytes x0 := by
  obtain ⟨i, h1, h2, h3, h4⟩ := info_parts h
  exact ⟨ht, i, z, h1, h2, h3, h4, hz, hx⟩
theorem wpList_make_Own {α : Type} [PlainRep α] {P : Program} {w : World} {ops : Array Oper} {rest : List Oper} {o : Oper} {a : Act} {Q : Exit → Act → World → Prop}
    (hg : o.guard = none) (l c : Operand) (t e : TypeId) (hop : o.op = Op.makeSlice t l c) (bytes : Nat) (x0 : α) (hE : Elem0 P t e bytes x0)
    (base : Nat) (kl kc : IntKind) (L C : Int) (n : Nat) (hl : a.eval l = .int kl L) (hc : a.eval c = .int kc C) (hL : L = (n : Int)) (hC : C = (n : Int)) (b2 : bytes * n ≤ 281474976710656) (b3 : n ≤ 9223372036854775807) (b4 : base ≤ w.heap.size)
    (hK : ∀ w', Own base e w' (.slice (some ⟨w.heap.size, 0, none⟩) n n) (List.replicate n x0) → w.grownBy w' none → wpList P ops Q rest (a.put o.dst (.slice (some ⟨w.heap.size, 0, none⟩) n n)) w') :
    wpList P ops Q (o :: rest) a w := by
  obtain ⟨ht, i, z, hi, hz, hsz, hby, hzs, hx⟩ := hE.ex
  refine wpList_make_full w hg l c t hop base e i z (Rep.size α) ht hi hz hsz kl kc L C n hl hc hL hC (by rw [hby]; exact b2) (by simpa [maxLen] using b3) b4 ?_
  intro w' ho hgr
  refine hK w' ⟨List.replicate n z.cells.toList, by simp, ?_, ?_⟩ hgr
  · intro j x cs h1 h2
    rw [List.getElem?_replicate] at h1 h2
    split at h1
    · rename_i hj
      rw [if_pos hj] at h2
      injection h1 with h1; injection h2 with h2
      subst h1; subst h2
      exact hx w'
    · cases h1
  · rw [← madeCells_flat _ _ _ hzs Rep.pos]
    simpa using ho
theorem el0Byte : Elem0 Tryd.prog 22 5 1 (0 : UInt8) := elem0_mk (z := .int .u8 0) Tryd.underlying22 (by kernel_rfl) rfl (fun _ => rfl)
theorem el0Sec : Elem0 Tryd.prog 32 57 8 Sec.zero := elem0_mk (z := .agg #[.int .u8 0, .int .u8 0, .int .u8 0, .int .u8 0, .int .u8 0, .int .u8 0, .int .u8 0, .int .u8 0]) Tryd.underlying32 (by kernel_rfl) rfl (fun _ => rfl)
end Go.Proofs.YtnddgpkljpjjbaaDoor
