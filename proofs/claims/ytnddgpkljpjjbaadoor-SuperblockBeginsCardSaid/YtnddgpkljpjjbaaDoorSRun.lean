/- What the operations of a Store leave, whole or interrupted: plain lists. -/
import Derived.Test.YtnddgpkljpjjbaaDoorSPure
import Derived.Test.YtnddgpkljpjjbaaDoorFormat
namespace Go.Proofs.YtnddgpkljpjjbaaDoor
open Go.RowKit
set_option linter.unusedVariables false
set_option linter.unusedSimpArgs false
theorem putAll_get : ∀ (l : List Sec) (st : List Sec) (q i : Nat), q + l.length ≤ st.length → (putAll st (putsAt (q : Int) l))[i]? = if q ≤ i ∧ i < q + l.length then l[i - q]? else st[i]?
  | [], st, q, i, h => by
    rw [if_neg (by simp)]; rfl
  | s :: r, st, q, i, h => by
    have e : putAll st (putsAt (q : Int) (s :: r)) = putAll (st.set q s) (putsAt ((q + 1 : Nat) : Int) r) := by
      show putAll (st.set (q : Int).toNat s) (putsAt ((q : Int) + 1) r) = _
      rw [Int.toNat_natCast]; rfl
    rw [e, putAll_get r (st.set q s) (q + 1) i (by rw [List.length_set]; simp at h; omega)]
    simp only [List.length_cons] at h ⊢
    by_cases h1 : q + 1 ≤ i ∧ i < q + 1 + r.length
    · rw [if_pos h1, if_pos (by omega), show i - q = (i - (q + 1)) + 1 from by omega, List.getElem?_cons_succ]
    · rw [if_neg h1, List.getElem?_set]
      by_cases h2 : q = i
      · subst h2
        rw [if_pos rfl, if_pos (by omega), if_pos (by omega), Nat.sub_self]; rfl
      · rw [if_neg h2, if_neg (by omega)]
theorem putsAt_mem : ∀ (l : List Sec) (p : Int) (x : Cached), x ∈ putsAt p l → ∃ j : Nat, l[j]? = some x.data ∧ x.at_ = p + j
  | s :: r, p, x, h => by
    rcases List.mem_cons.1 h with rfl | h
    · exact ⟨0, rfl, by simp⟩
    · obtain ⟨j, h1, h2⟩ := putsAt_mem r (p + 1) x h
      exact ⟨j + 1, by simpa using h1, by rw [h2]; push_cast; omega⟩
/-- a disk with a superblock at p and nothing in the cache -/
structure Base (st : List Sec) (p : Nat) (xs : List UInt8) : Prop where
  fit : p + 16 ≤ st.length
  small : st.length ≤ 4096
  ne : supGen ⟨st, []⟩ p ≠ 0
  top : supTop ⟨st, []⟩ p + 1 < 4294967295
  len : xs.length ≤ 31
theorem Base.ok {st : List Sec} {p : Nat} {xs : List UInt8} (h : Base st p xs) : (⟨st, []⟩ : Disk).ok = true := by simp [Disk.ok, h.small]
theorem Base.inside {st : List Sec} {p : Nat} {xs : List UInt8} (h : Base st p xs) : insideB st.length (p : Int) 16 = true := by
  have := h.fit; simp [insideB]; omega
theorem Base.noErr {st : List Sec} {p : Nat} {xs : List UInt8} (h : Base st p xs) : storeErr ⟨st, []⟩ p xs = 0 := by
  have h1 := h.top; have h2 := h.len
  rw [Go.Proofs.YtnddgpkljpjjbaaDoor.storeErr, h.ok, h.inside, if_neg (by simp), if_neg (by rw [Int.toNat_natCast]; exact h.ne), if_neg (by omega), if_neg (by rw [Int.toNat_natCast]; omega)]
theorem Base.ops {st : List Sec} {p : Nat} {xs : List UInt8} (h : Base st p xs) : storeRes ⟨st, []⟩ p xs = [⟨0, (otherAt ⟨st, []⟩ p : Nat), copySecs (supTop ⟨st, []⟩ p + 1) xs⟩, ⟨1, 0, []⟩] := by
  have hsn : supNew ⟨st, []⟩ p ≤ 1 := by rw [supNew]; split <;> omega
  rw [Go.Proofs.YtnddgpkljpjjbaaDoor.storeRes, if_pos h.noErr, storeOps, Int.toNat_natCast, otherAt]
  congr 3
  push_cast
  omega
theorem Base.other {st : List Sec} {p : Nat} {xs : List UInt8} (h : Base st p xs) : otherAt ⟨st, []⟩ p + 8 ≤ st.length := by
  have hsn : supNew ⟨st, []⟩ p ≤ 1 := by rw [supNew]; split <;> omega
  have := h.fit; rw [otherAt]; omega
theorem Base.first {st : List Sec} {p : Nat} {xs : List UInt8} (h : Base st p xs) : stepOp ⟨st, []⟩ ⟨0, (otherAt ⟨st, []⟩ p : Nat), copySecs (supTop ⟨st, []⟩ p + 1) xs⟩ = (0, ⟨st, putsAt (otherAt ⟨st, []⟩ p : Nat) (copySecs (supTop ⟨st, []⟩ p + 1) xs)⟩) := by
  have ho := h.other
  rw [Go.Proofs.YtnddgpkljpjjbaaDoor.stepOp, if_neg (by simp), if_pos rfl, if_pos (by rw [copySecs_len]; simp [insideB]; omega)]
  rfl
/-- the whole Store -/
def whole (st : List Sec) (p : Nat) (xs : List UInt8) : List Sec := putAll st (putsAt (otherAt ⟨st, []⟩ p : Nat) (copySecs (supTop ⟨st, []⟩ p + 1) xs))
theorem Base.run2 {st : List Sec} {p : Nat} {xs : List UInt8} (h : Base st p xs) : runOps (storeRes ⟨st, []⟩ p xs) ⟨st, []⟩ 0 = (⟨whole st p xs, []⟩, 2, 0) := by
  rw [h.ops, runOps, h.first]; rfl
theorem Base.run1 {st : List Sec} {p : Nat} {xs : List UInt8} (h : Base st p xs) : runOps ((storeRes ⟨st, []⟩ p xs).take 1) ⟨st, []⟩ 0 = (⟨st, putsAt (otherAt ⟨st, []⟩ p : Nat) (copySecs (supTop ⟨st, []⟩ p + 1) xs)⟩, 1, 0) := by
  rw [h.ops, List.take_succ_cons, List.take_zero, runOps, h.first]; rfl
theorem Base.whole_get {st : List Sec} {p : Nat} {xs : List UInt8} (h : Base st p xs) (i : Nat) : (whole st p xs)[i]? = if otherAt ⟨st, []⟩ p ≤ i ∧ i < otherAt ⟨st, []⟩ p + 8 then (copySecs (supTop ⟨st, []⟩ p + 1) xs)[i - otherAt ⟨st, []⟩ p]? else st[i]? :=
  putAll_get _ _ _ _ h.other
theorem Base.mixed2 {st : List Sec} {p : Nat} {xs : List UInt8} (h : Base st p xs) : Mixed st p xs (whole st p xs) where
  len := putAll_length _ _
  at_ i := by
    rw [h.whole_get]
    split
    · rename_i hi
      exact .inr ⟨i - otherAt ⟨st, []⟩ p, by omega, by omega, rfl⟩
    · exact .inl rfl
theorem Mixed.same (st : List Sec) (p : Nat) (xs : List UInt8) : Mixed st p xs st := ⟨rfl, fun i => .inl rfl⟩
theorem crash_none {st out : List Sec} (h : CrashOf ⟨st, []⟩ out) : out = st := by
  apply List.ext_getElem?
  intro i
  rcases Nat.lt_or_ge i out.length with hi | hi
  · rcases h.2 i _ (List.getElem?_eq_getElem hi) with e | ⟨x, hx, _⟩
    · rw [List.getElem?_eq_getElem hi, e]
    · cases hx
  · rw [List.getElem?_eq_none hi, List.getElem?_eq_none (by have := h.1; simp only at this; omega)]
theorem Base.mixed1 {st out : List Sec} {p : Nat} {xs : List UInt8} (h : Base st p xs) (hc : CrashOf ⟨st, putsAt (otherAt ⟨st, []⟩ p : Nat) (copySecs (supTop ⟨st, []⟩ p + 1) xs)⟩ out) : Mixed st p xs out where
  len := hc.1
  at_ i := by
    have hl := hc.1
    simp only at hl
    rcases Nat.lt_or_ge i out.length with hi | hi
    · rcases hc.2 i _ (List.getElem?_eq_getElem hi) with e | ⟨x, hx, e1, e2⟩
      · exact .inl (by rw [List.getElem?_eq_getElem hi]; exact e.symm)
      · obtain ⟨j, hj, e3⟩ := putsAt_mem _ _ _ hx
        have hj8 : j < 8 := by have := (List.getElem?_eq_some_iff.1 hj).1; rwa [copySecs_len] at this
        exact .inr ⟨j, hj8, by omega, by rw [List.getElem?_eq_getElem hi, hj, e2]⟩
    · exact .inl (by rw [List.getElem?_eq_none hi, List.getElem?_eq_none (by omega)])
theorem Base.step {st out : List Sec} {p : Nat} {xs : List UInt8} (h : Base st p xs) (hm : Mixed st p xs out) : Stepped st p xs out := stepped h.fit h.ne (by have := h.top; omega) h.len hm
theorem Base.done {st : List Sec} {p : Nat} {xs : List UInt8} (h : Base st p xs) : supPay ⟨whole st p xs, []⟩ p = xs ∧ supGen ⟨whole st p xs, []⟩ p = supTop ⟨st, []⟩ p + 1 :=
  (h.step h.mixed2).done fun j hj => by rw [h.whole_get, if_pos (by omega), Nat.add_sub_cancel_left]
end Go.Proofs.YtnddgpkljpjjbaaDoor
