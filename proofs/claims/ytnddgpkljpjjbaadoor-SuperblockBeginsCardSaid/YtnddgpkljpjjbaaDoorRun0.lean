/- Running operations: the plain side. -/
import Derived.Test.YtnddgpkljpjjbaaDoorExec2
namespace Go.Proofs.YtnddgpkljpjjbaaDoor
open Go.RowKit
set_option linter.unusedVariables false
set_option linter.unusedSimpArgs false
def putsAt (p : Int) : List Sec → List Cached
  | [] => []
  | s :: r => ⟨p, s⟩ :: putsAt (p + 1) r
theorem putsAt_length : ∀ (l : List Sec) (p : Int), (putsAt p l).length = l.length
  | [], _ => rfl
  | s :: r, p => by simp [putsAt, putsAt_length r]
theorem putsAt_get : ∀ (l : List Sec) (p : Int) (k : Nat) (x : Sec), l[k]? = some x → (putsAt p l)[k]? = some ⟨p + k, x⟩
  | [], _, k, x, h => by simp at h
  | s :: r, p, 0, x, h => by simp at h; simp [putsAt, h]
  | s :: r, p, k + 1, x, h => by
    have := putsAt_get r (p + 1) k x (by simpa using h)
    simp [putsAt, this]; omega
theorem putsAt_in : ∀ (l : List Sec) (p : Int) (c : Cached), c ∈ putsAt p l → p ≤ c.at_ ∧ c.at_ < p + l.length
  | [], _, c, h => by simp [putsAt] at h
  | s :: r, p, c, h => by
    simp only [putsAt, List.mem_cons] at h
    rcases h with rfl | h
    · simp; omega
    · have := putsAt_in r (p + 1) c h
      simp; omega
def Disk.puts (d : Disk) (p : Int) (l : List Sec) : Disk := ⟨d.stable, d.cache ++ putsAt p l⟩
theorem Disk.ok_puts (d : Disk) (p : Int) (l : List Sec) (h : d.ok = true) (hin : insideB d.stable.length p l.length = true) : (d.puts p l).ok = true := by
  have h0 := h
  simp only [Disk.ok, Disk.puts, Bool.and_eq_true, List.all_eq_true, List.mem_append] at h ⊢
  refine ⟨h.1, fun c hc => ?_⟩
  rcases hc with hc | hc
  · exact h.2 c hc
  · have := putsAt_in l p c hc
    simp [insideB] at hin
    have h1 : 0 ≤ c.at_ := by omega
    have h2 : c.at_ < d.stable.length := by omega
    exact ⟨decide_eq_true h1, decide_eq_true h2⟩
theorem putAll_len (l : List Cached) (s : List Sec) : (putAll s l).length = s.length := putAll_length l s
theorem Disk.ok_synced (d : Disk) (h : d.ok = true) : (⟨d.newest, []⟩ : Disk).ok = true := by
  simp only [Disk.ok, Bool.and_eq_true, decide_eq_true_eq] at h ⊢
  exact ⟨by rw [Disk.newest, putAll_length]; exact h.1, rfl⟩
/-- one operation: the number of the error and the disk -/
def stepOp (d : Disk) (op : OpD) : Int × Disk :=
  if op.kind < 0 ∨ 2 ≤ op.kind then (1, d) else if op.kind = 0 then (if insideB d.stable.length op.at_ op.data.length = true then (0, d.puts op.at_ op.data) else (2, d)) else (0, ⟨d.newest, []⟩)
theorem stepOp_ok (d : Disk) (op : OpD) (h : d.ok = true) : (stepOp d op).2.ok = true := by
  unfold stepOp
  split
  · exact h
  · split
    · split
      · exact Disk.ok_puts d _ _ h (by assumption)
      · exact h
    · exact Disk.ok_synced d h
theorem stepOp_room (d : Disk) (op : OpD) : (stepOp d op).2.cache.length ≤ d.cache.length + op.data.length := by
  unfold stepOp
  split
  · simp
  · split
    · split
      · simp [Disk.puts, putsAt_length]
      · simp
    · simp
theorem stepOp_stable (d : Disk) (op : OpD) : (stepOp d op).2.stable.length = d.stable.length := by
  unfold stepOp
  split
  · rfl
  · split
    · split <;> rfl
    · exact putAll_length d.cache d.stable
/-- all operations: the disk, the index and the number of the error -/
def runOps : List OpD → Disk → Nat → Disk × Nat × Int
  | [], d, i => (d, i, 0)
  | op :: r, d, i => if (stepOp d op).1 = 0 then runOps r (stepOp d op).2 (i + 1) else ((stepOp d op).2, i, (stepOp d op).1)
def room (l : List OpD) : Nat := (l.map fun o => o.data.length).sum
theorem runOps_drop (l : List OpD) (k : Nat) (op : OpD) (d : Disk) (h : l[k]? = some op) :
    runOps (l.drop k) d k = if (stepOp d op).1 = 0 then runOps (l.drop (k + 1)) (stepOp d op).2 (k + 1) else ((stepOp d op).2, k, (stepOp d op).1) := by
  obtain ⟨hlt, he⟩ := List.getElem?_eq_some_iff.1 h
  rw [List.drop_eq_getElem_cons hlt, he, runOps]
theorem room_drop (l : List OpD) (k : Nat) (op : OpD) (h : l[k]? = some op) : room (l.drop k) = op.data.length + room (l.drop (k + 1)) := by
  obtain ⟨hlt, he⟩ := List.getElem?_eq_some_iff.1 h
  rw [List.drop_eq_getElem_cons hlt, he]; simp [room]
end Go.Proofs.YtnddgpkljpjjbaaDoor
