/- What a superblock on a disk holds after a Store that was interrupted: plain lists. -/
import Derived.Test.YtnddgpkljpjjbaaDoorStore
import Derived.Test.YtnddgpkljpjjbaaDoorRun0
import Derived.Test.YtnddgpkljpjjbaaDoorCrash
namespace Go.Proofs.YtnddgpkljpjjbaaDoor
open Go.RowKit
set_option linter.unusedVariables false
set_option linter.unusedSimpArgs false
theorem newest_nil (st : List Sec) : (⟨st, []⟩ : Disk).newest = st := rfl
theorem supA_get (st : List Sec) (p j : Nat) (hj : j < 8) : (supA ⟨st, []⟩ p)[j]? = st[p + j]? := by
  rw [supA, supAll, newest_nil, List.getElem?_take, if_pos hj, List.getElem?_take, if_pos (by omega), List.getElem?_drop]
theorem supB_get (st : List Sec) (p j : Nat) (hj : j < 8) : (supB ⟨st, []⟩ p)[j]? = st[p + 8 + j]? := by
  rw [supB, supAll, newest_nil, List.getElem?_drop, List.getElem?_take, if_pos (by omega), List.getElem?_drop]
  congr 1; omega
theorem supA_len (st : List Sec) (p : Nat) (h : p + 16 ≤ st.length) : (supA ⟨st, []⟩ p).length = 8 := by
  rw [supA, List.length_take, supAll_length _ p h]; rfl
theorem supB_len (st : List Sec) (p : Nat) (h : p + 16 ≤ st.length) : (supB ⟨st, []⟩ p).length = 8 := by
  rw [supB, List.length_drop, supAll_length _ p h]
theorem ext8 {α : Type} {a b : List α} (ha : a.length = 8) (hb : b.length = 8) (h : ∀ j, j < 8 → a[j]? = b[j]?) : a = b := by
  apply List.ext_getElem?
  intro j
  rcases Nat.lt_or_ge j 8 with hj | hj
  · exact h j hj
  · rw [List.getElem?_eq_none (by omega), List.getElem?_eq_none (by omega)]
theorem topOf_le (K : Nat) : ∀ (l : List Sec) (m : Nat), (∀ s ∈ l, s.gen ≤ K) → m ≤ K → topOf l m ≤ K
  | [], m, _, h => h
  | s :: l, m, h, hm => topOf_le K l _ (fun t ht => h t (by simp [ht])) (by have := h s (by simp); show max m s.gen ≤ K; omega)
theorem le_topOf_start : ∀ (l : List Sec) (m : Nat), m ≤ topOf l m
  | [], m => Nat.le_refl _
  | s :: l, m => Nat.le_trans (show m ≤ max m s.gen by omega) (le_topOf_start l _)
theorem le_topOf : ∀ (l : List Sec) (m : Nat) (s : Sec), s ∈ l → s.gen ≤ topOf l m
  | t :: l, m, s, h => by
    rcases List.mem_cons.1 h with rfl | h
    · exact Nat.le_trans (show s.gen ≤ max m s.gen by omega) (le_topOf_start l _)
    · exact le_topOf l _ s h
theorem copyGen_all {l : List Sec} (h : copyGen l ≠ 0) : ∀ s ∈ l, s.gen = copyGen l := by
  unfold copyGen at h ⊢
  split at h
  · rename_i hok
    rw [if_pos hok]
    simp only [copyOk, Bool.and_eq_true, List.all_eq_true, beq_iff_eq] at hok
    exact hok.1.1
  · exact absurd rfl h
theorem byteN_gen (g : Nat) (a b c d : UInt8) (hg : g < 4294967296) : (mkSec g a b c d).gen = g := by
  simp only [mkSec, Sec.gen, byteN, UInt8.toNat_ofNat']
  omega
theorem copySecs_len (g : Nat) (xs : List UInt8) : (copySecs g xs).length = 8 := rfl
theorem copySecs_gen (g : Nat) (xs : List UInt8) (hg : g < 4294967296) : ∀ s ∈ copySecs g xs, s.gen = g := by
  intro s hs
  obtain ⟨j, _, rfl⟩ := List.mem_map.1 hs
  exact byteN_gen g _ _ _ _ hg
theorem datas_copy (g : Nat) (xs : List UInt8) (hx : xs.length ≤ 31) : datas (copySecs g xs) = copyData xs := by
  have hl := copyData_length xs hx
  unfold copySecs
  generalize copyData xs = D at *
  match D, hl with
  | [x0, x1, x2, x3, x4, x5, x6, x7, x8, x9, x10, x11, x12, x13, x14, x15, x16, x17, x18, x19, x20, x21, x22, x23, x24, x25, x26, x27, x28, x29, x30, x31], _ => rfl
theorem copyOk_copy (g : Nat) (xs : List UInt8) (hg : g < 4294967296) (hx : xs.length ≤ 31) : copyOk (copySecs g xs) = true ∧ copyGen (copySecs g xs) = g ∧ copyPay (copySecs g xs) = xs := by
  have hd := datas_copy g xs hx
  have hgs := copySecs_gen g xs hg
  have h0 : gen0 (copySecs g xs) = g := hgs (copySec g (copyData xs) 0) (List.mem_map.2 ⟨0, by simp, rfl⟩)
  have hD : copyData xs = UInt8.ofNat xs.length :: (xs ++ List.replicate (31 - xs.length) 0) := by rw [copyData, copyDataTo, List.take_length]
  have hlen : lenB (copySecs g xs) = xs.length := by rw [lenB, hd, hD]; exact ofNat_lt (by omega)
  have hok : copyOk (copySecs g xs) = true := by
    refine copyOk_yes _ (fun j s hs => ?_) (by rw [hlen]; exact hx) (fun j x hj hxj => ?_)
    · rw [h0]; exact hgs s (List.mem_of_getElem? hs)
    · rw [hlen] at hj
      rw [hd, hD] at hxj
      obtain ⟨k, rfl⟩ : ∃ k, j = k + 1 := ⟨j - 1, by omega⟩
      rw [List.getElem?_cons_succ, List.getElem?_append_right (by omega), List.getElem?_replicate] at hxj
      split at hxj
      · injection hxj with hxj; exact hxj.symm
      · cases hxj
  refine ⟨hok, by rw [copyGen, if_pos hok, h0], ?_⟩
  rw [copyPay, if_pos hok, hlen, hd, hD, List.drop_succ_cons, List.drop_zero, List.take_left]
/-- a copy of which each sector is the old or the new one is the new copy, or the old one, or none -/
theorem mix8 {O O' : List Sec} {T : Nat} {xs : List UInt8} (hO : O.length = 8) (hO' : O'.length = 8) (hT : T + 1 < 4294967296) (hg : ∀ s ∈ O, s.gen ≤ T) (h : ∀ j, j < 8 → O'[j]? = O[j]? ∨ O'[j]? = (copySecs (T + 1) xs)[j]?) :
    O' = copySecs (T + 1) xs ∨ O' = O ∨ copyGen O' = 0 := by
  by_cases h0 : copyGen O' = 0
  · exact .inr (.inr h0)
  · have hall := copyGen_all h0
    have hcg := copySecs_gen (T + 1) xs hT
    by_cases hT1 : copyGen O' = T + 1
    · refine .inl (ext8 hO' (copySecs_len _ _) fun j hj => ?_)
      rcases h j hj with e | e
      · obtain ⟨s, hs⟩ : ∃ s, O'[j]? = some s := ⟨_, List.getElem?_eq_getElem (by omega)⟩
        have h1 := hall s (List.mem_of_getElem? hs)
        have h2 := hg s (List.mem_of_getElem? (e ▸ hs))
        omega
      · exact e
    · refine .inr (.inl (ext8 hO' hO fun j hj => ?_))
      rcases h j hj with e | e
      · exact e
      · obtain ⟨s, hs⟩ : ∃ s, O'[j]? = some s := ⟨_, List.getElem?_eq_getElem (by omega)⟩
        have h1 := hall s (List.mem_of_getElem? hs)
        have h2 := hcg s (List.mem_of_getElem? (e ▸ hs))
        omega
theorem supAll_split (d : Disk) (p : Nat) : supAll d p = supA d p ++ supB d p := (List.take_append_drop 8 _).symm
theorem gen_le_top {d : Disk} {p : Nat} : (∀ s ∈ supA d p, s.gen ≤ supTop d p) ∧ (∀ s ∈ supB d p, s.gen ≤ supTop d p) := by
  refine ⟨fun s hs => le_topOf _ _ s ?_, fun s hs => le_topOf _ _ s ?_⟩ <;> rw [supAll_split] <;> simp [hs]
theorem copyGen_le {l : List Sec} {T : Nat} (hl : l.length = 8) (h : ∀ s ∈ l, s.gen ≤ T) : copyGen l ≤ T := by
  by_cases h0 : copyGen l = 0
  · omega
  · have hs : l[0]? = some (l[0]'(by omega)) := List.getElem?_eq_getElem _
    have h1 := copyGen_all h0 _ (List.mem_of_getElem? hs)
    have h2 := h _ (List.mem_of_getElem? hs)
    omega
def otherAt (d : Disk) (p : Nat) : Nat := p + (8 - 8 * supNew d p)
/-- what a Store, interrupted or not, may leave -/
structure Mixed (st : List Sec) (p : Nat) (xs : List UInt8) (out : List Sec) : Prop where
  len : out.length = st.length
  at_ : ∀ i : Nat, out[i]? = st[i]? ∨ ∃ j, j < 8 ∧ i = otherAt ⟨st, []⟩ p + j ∧ out[i]? = (copySecs (supTop ⟨st, []⟩ p + 1) xs)[j]?
structure Stepped (st : List Sec) (p : Nat) (xs : List UInt8) (out : List Sec) : Prop where
  len : out.length = st.length
  ne : supGen ⟨out, []⟩ p ≠ 0
  one : (supPay ⟨out, []⟩ p = supPay ⟨st, []⟩ p ∧ supGen ⟨out, []⟩ p = supGen ⟨st, []⟩ p) ∨ (supPay ⟨out, []⟩ p = xs ∧ supGen ⟨out, []⟩ p = supTop ⟨st, []⟩ p + 1)
  top : supTop ⟨out, []⟩ p ≤ supTop ⟨st, []⟩ p + 1
  done : (∀ j, j < 8 → out[otherAt ⟨st, []⟩ p + j]? = (copySecs (supTop ⟨st, []⟩ p + 1) xs)[j]?) → supPay ⟨out, []⟩ p = xs ∧ supGen ⟨out, []⟩ p = supTop ⟨st, []⟩ p + 1
  rest : ∀ i, i < p ∨ p + 16 ≤ i → out[i]? = st[i]?
  low : supGen ⟨st, []⟩ p ≤ supTop ⟨st, []⟩ p
theorem stepped {st out : List Sec} {p : Nat} {xs : List UInt8} (hp : p + 16 ≤ st.length) (hg : supGen ⟨st, []⟩ p ≠ 0) (hT : supTop ⟨st, []⟩ p + 1 < 4294967296) (hx : xs.length ≤ 31) (h : Mixed st p xs out) : Stepped st p xs out := by
  have hp' : p + 16 ≤ out.length := by rw [h.len]; exact hp
  obtain ⟨hc1, hc2, hc3⟩ := copyOk_copy (supTop ⟨st, []⟩ p + 1) xs hT hx
  obtain ⟨htA, htB⟩ := gen_le_top (d := ⟨st, []⟩) (p := p)
  have hlA := supA_len st p hp; have hlB := supB_len st p hp; have hlA' := supA_len out p hp'; have hlB' := supB_len out p hp'
  have hgA := copyGen_le hlA htA; have hgB := copyGen_le hlB htB
  have hlow : supGen ⟨st, []⟩ p ≤ supTop ⟨st, []⟩ p := by rw [supGen]; split <;> assumption
  have hsn : supNew ⟨st, []⟩ p = 0 ∨ supNew ⟨st, []⟩ p = 1 := by rw [supNew]; split <;> simp
  have hrest : ∀ i, i < p ∨ p + 16 ≤ i → out[i]? = st[i]? := by
    intro i hi
    rcases h.at_ i with e | ⟨j, hj, e, _⟩
    · exact e
    · exfalso; rw [otherAt] at e; rcases hsn with h0 | h0 <;> rw [h0] at e <;> omega
  have hmem : ∀ s ∈ supAll ⟨out, []⟩ p, s.gen ≤ supTop ⟨st, []⟩ p + 1 := by
    intro s hs
    obtain ⟨i, hi⟩ := List.getElem?_of_mem hs
    have hi16 : i < 16 := by have := (List.getElem?_eq_some_iff.1 hi).1; rwa [supAll_length _ p hp'] at this
    have hio : out[p + i]? = some s := by
      rw [supAll, newest_nil, List.getElem?_take, if_pos hi16, List.getElem?_drop] at hi
      exact hi
    rcases h.at_ (p + i) with e | ⟨j, hj, _, e⟩
    · have hst : (supAll ⟨st, []⟩ p)[i]? = some s := by
        rw [supAll, newest_nil, List.getElem?_take, if_pos hi16, List.getElem?_drop, ← e]; exact hio
      exact Nat.le_succ_of_le (le_topOf _ _ s (List.mem_of_getElem? hst))
    · rw [hio] at e
      exact Nat.le_of_eq (copySecs_gen _ xs hT s (List.mem_of_getElem? e.symm))
  have htop : supTop ⟨out, []⟩ p ≤ supTop ⟨st, []⟩ p + 1 := topOf_le _ _ _ hmem (Nat.zero_le _)
  rcases hsn with h0 | h0
  · -- the other copy is the second
    have hle : ¬ copyGen (supA ⟨st, []⟩ p) < copyGen (supB ⟨st, []⟩ p) := by rw [supNew] at h0; split at h0; cases h0; assumption
    have hoa : otherAt ⟨st, []⟩ p = p + 8 := by rw [otherAt, h0]
    have hA : supA ⟨out, []⟩ p = supA ⟨st, []⟩ p := ext8 hlA' hlA fun j hj => by
      rw [supA_get _ _ _ hj, supA_get _ _ _ hj]
      rcases h.at_ (p + j) with e | ⟨k, _, e, _⟩
      · exact e
      · omega
    have hB := mix8 (xs := xs) hlB hlB' hT htB (fun j hj => by
      rw [supB_get _ _ _ hj, supB_get _ _ _ hj]
      rcases h.at_ (p + 8 + j) with e | ⟨k, _, e, e'⟩
      · exact .inl e
      · obtain rfl : k = j := by omega
        exact .inr e')
    have hgs : supGen ⟨st, []⟩ p = copyGen (supA ⟨st, []⟩ p) := by rw [supGen, if_neg hle]
    have hps : supPay ⟨st, []⟩ p = copyPay (supA ⟨st, []⟩ p) := by rw [supPay, if_neg hle]
    have hnew : supB ⟨out, []⟩ p = copySecs (supTop ⟨st, []⟩ p + 1) xs → supPay ⟨out, []⟩ p = xs ∧ supGen ⟨out, []⟩ p = supTop ⟨st, []⟩ p + 1 := fun e => by
      rw [supPay, supGen, hA, e, hc2, hc3, if_pos (by omega), if_pos (by omega)]; exact ⟨rfl, rfl⟩
    have hold : supB ⟨out, []⟩ p = supB ⟨st, []⟩ p ∨ copyGen (supB ⟨out, []⟩ p) = 0 → supPay ⟨out, []⟩ p = supPay ⟨st, []⟩ p ∧ supGen ⟨out, []⟩ p = supGen ⟨st, []⟩ p := fun e => by
      rw [hgs, hps, supPay, supGen, hA]
      rcases e with e | e
      · rw [e, if_neg hle, if_neg hle]; exact ⟨rfl, rfl⟩
      · rw [e, if_neg (by omega), if_neg (by omega)]; exact ⟨rfl, rfl⟩
    have hone : (supPay ⟨out, []⟩ p = supPay ⟨st, []⟩ p ∧ supGen ⟨out, []⟩ p = supGen ⟨st, []⟩ p) ∨ (supPay ⟨out, []⟩ p = xs ∧ supGen ⟨out, []⟩ p = supTop ⟨st, []⟩ p + 1) := by
      rcases hB with e | e | e
      · exact .inr (hnew e)
      · exact .inl (hold (.inl e))
      · exact .inl (hold (.inr e))
    refine ⟨h.len, ?_, hone, htop, fun hd => hnew (ext8 hlB' (copySecs_len _ _) fun j hj => ?_), hrest, hlow⟩
    · rcases hone with ⟨_, e⟩ | ⟨_, e⟩ <;> rw [e]
      · exact hg
      · omega
    · have := hd j hj
      rw [hoa] at this
      rw [supB_get _ _ _ hj]; exact this
  · have hle : copyGen (supA ⟨st, []⟩ p) < copyGen (supB ⟨st, []⟩ p) := by rw [supNew] at h0; split at h0; assumption; cases h0
    have hoa : otherAt ⟨st, []⟩ p = p := by rw [otherAt, h0]; omega
    have hB : supB ⟨out, []⟩ p = supB ⟨st, []⟩ p := ext8 hlB' hlB fun j hj => by
      rw [supB_get _ _ _ hj, supB_get _ _ _ hj]
      rcases h.at_ (p + 8 + j) with e | ⟨k, _, e, _⟩
      · exact e
      · omega
    have hA := mix8 (xs := xs) hlA hlA' hT htA (fun j hj => by
      rw [supA_get _ _ _ hj, supA_get _ _ _ hj]
      rcases h.at_ (p + j) with e | ⟨k, _, e, e'⟩
      · exact .inl e
      · obtain rfl : k = j := by omega
        exact .inr e')
    have hgs : supGen ⟨st, []⟩ p = copyGen (supB ⟨st, []⟩ p) := by rw [supGen, if_pos hle]
    have hps : supPay ⟨st, []⟩ p = copyPay (supB ⟨st, []⟩ p) := by rw [supPay, if_pos hle]
    have hnew : supA ⟨out, []⟩ p = copySecs (supTop ⟨st, []⟩ p + 1) xs → supPay ⟨out, []⟩ p = xs ∧ supGen ⟨out, []⟩ p = supTop ⟨st, []⟩ p + 1 := fun e => by
      rw [supPay, supGen, hB, e, hc2, hc3, if_neg (by omega), if_neg (by omega)]; exact ⟨rfl, rfl⟩
    have hold : supA ⟨out, []⟩ p = supA ⟨st, []⟩ p ∨ copyGen (supA ⟨out, []⟩ p) = 0 → supPay ⟨out, []⟩ p = supPay ⟨st, []⟩ p ∧ supGen ⟨out, []⟩ p = supGen ⟨st, []⟩ p := fun e => by
      rw [hgs, hps, supPay, supGen, hB]
      rcases e with e | e
      · rw [e, if_pos hle, if_pos hle]; exact ⟨rfl, rfl⟩
      · rw [e, if_pos (by omega), if_pos (by omega)]; exact ⟨rfl, rfl⟩
    have hone : (supPay ⟨out, []⟩ p = supPay ⟨st, []⟩ p ∧ supGen ⟨out, []⟩ p = supGen ⟨st, []⟩ p) ∨ (supPay ⟨out, []⟩ p = xs ∧ supGen ⟨out, []⟩ p = supTop ⟨st, []⟩ p + 1) := by
      rcases hA with e | e | e
      · exact .inr (hnew e)
      · exact .inl (hold (.inl e))
      · exact .inl (hold (.inr e))
    refine ⟨h.len, ?_, hone, htop, fun hd => hnew (ext8 hlA' (copySecs_len _ _) fun j hj => ?_), hrest, hlow⟩
    · rcases hone with ⟨_, e⟩ | ⟨_, e⟩ <;> rw [e]
      · exact hg
      · omega
    · have := hd j hj
      rw [hoa] at this
      rw [supA_get _ _ _ hj]; exact this
end Go.Proofs.YtnddgpkljpjjbaaDoor
