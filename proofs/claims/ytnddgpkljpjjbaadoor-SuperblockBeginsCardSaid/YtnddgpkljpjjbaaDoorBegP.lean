/- What a Format that is interrupted leaves on a disk with a superblock: plain lists. -/
import Derived.Test.YtnddgpkljpjjbaaDoorBegin
namespace Go.Proofs.YtnddgpkljpjjbaaDoor
open Go.RowKit
set_option linter.unusedVariables false
set_option linter.unusedSimpArgs false
theorem mixZ {O' : List Sec} {g : Nat} {xs : List UInt8} (hl : O'.length = 8) (hg : 0 < g) (hg' : g < 4294967296) (h : ∀ j, j < 8 → O'[j]? = some Sec.zero ∨ O'[j]? = (copySecs g xs)[j]?) : O' = copySecs g xs ∨ copyGen O' = 0 := by
  obtain ⟨T, rfl⟩ : ∃ T, g = T + 1 := ⟨g - 1, by omega⟩
  have hz : Sec.zero.gen = 0 := by decide
  rcases mix8 (O := List.replicate 8 Sec.zero) (by simp) hl hg' (fun s hs => by rw [List.eq_of_mem_replicate hs, hz]; exact Nat.zero_le _) (fun j hj => by rw [List.getElem?_replicate, if_pos hj]; exact h j hj) with e | e | e
  · exact .inl e
  · exact .inr (by rw [e]; exact zero8_gen)
  · exact .inr e
theorem pay_two {out : List Sec} {q g g' : Nat} {p p' : List UInt8} (hA : supA ⟨out, []⟩ q = copySecs g p ∨ copyGen (supA ⟨out, []⟩ q) = 0) (hB : supB ⟨out, []⟩ q = copySecs g' p' ∨ copyGen (supB ⟨out, []⟩ q) = 0) (hg : g < 4294967296) (hg' : g' < 4294967296) (hp : p.length ≤ 31) (hp' : p'.length ≤ 31) (hne : supGen ⟨out, []⟩ q ≠ 0) : supPay ⟨out, []⟩ q = p ∨ supPay ⟨out, []⟩ q = p' := by
  rw [supGen] at hne
  rw [supPay]
  split at hne <;> rename_i hlt
  · rw [if_pos hlt]
    rcases hB with e | e
    · right; rw [e]; exact (copyOk_copy g' p' hg' hp').2.2
    · exact absurd e hne
  · rw [if_neg hlt]
    rcases hA with e | e
    · left; rw [e]; exact (copyOk_copy g p hg hp).2.2
    · exact absurd e hne
theorem pay_first {out : List Sec} {q g : Nat} {p : List UInt8} (hA : supA ⟨out, []⟩ q = copySecs g p ∨ copyGen (supA ⟨out, []⟩ q) = 0) (hB : copyGen (supB ⟨out, []⟩ q) = 0) (hg : g < 4294967296) (hp : p.length ≤ 31) (hne : supGen ⟨out, []⟩ q ≠ 0) : supPay ⟨out, []⟩ q = p := by
  rcases pay_two hA (.inr hB : supB ⟨out, []⟩ q = copySecs g p ∨ _) hg hg hp hp hne with e | e <;> exact e
theorem crash_puts {st out l : List Sec} {q : Nat} (hc : CrashOf ⟨st, putsAt (q : Int) l⟩ out) (i : Nat) : out[i]? = st[i]? ∨ ∃ j, j < l.length ∧ i = q + j ∧ out[i]? = l[j]? := by
  have hl := hc.1
  simp only at hl
  rcases Nat.lt_or_ge i out.length with hi | hi
  · rcases hc.2 i _ (List.getElem?_eq_getElem hi) with e | ⟨x, hx, e1, e2⟩
    · exact .inl (by rw [List.getElem?_eq_getElem hi]; exact e.symm)
    · obtain ⟨j, hj, e3⟩ := putsAt_mem _ _ _ hx
      exact .inr ⟨j, (List.getElem?_eq_some_iff.1 hj).1, by omega, by rw [List.getElem?_eq_getElem hi, hj, e2]⟩
  · exact .inl (by rw [List.getElem?_eq_none hi, List.getElem?_eq_none (by omega)])
/-- a disk on which a superblock was created, behind a step -/
structure Stp (old xs : List UInt8) (out : List Sec) : Prop where
  len : out.length = 30
  a : ∀ j, j < 8 → out[5 + j]? = (copySecs 1 old)[j]?
  b : ∀ j, j < 8 → out[13 + j]? = some Sec.zero ∨ out[13 + j]? = (copySecs 2 xs)[j]?
theorem gen_low {st : List Sec} (hl : 5 + 16 ≤ st.length) : supGen ⟨st, []⟩ 5 ≤ supTop ⟨st, []⟩ 5 := by
  obtain ⟨htA, htB⟩ := gen_le_top (d := ⟨st, []⟩) (p := 5)
  have hgA := copyGen_le (supA_len _ _ hl) htA; have hgB := copyGen_le (supB_len _ _ hl) htB
  rw [supGen]
  split
  · exact hgB
  · exact hgA
theorem begun_new (content : List Sec) (old : List UInt8) (ho : old.length ≤ 31) : otherAt ⟨begun content old, []⟩ 5 = 13 ∧ supTop ⟨begun content old, []⟩ 5 = 1 := by
  obtain ⟨_, h2, _⟩ := copyOk_copy 1 old (by omega) ho
  obtain ⟨h4, _, h6⟩ := begun_gen content old ho
  refine ⟨?_, ?_⟩
  · rw [otherAt, supNew, begun_A, begun_B, h2, zero8_gen, if_neg (by omega)]
  · have hlow := gen_low (st := begun content old) (by rw [begun_len]; omega)
    omega
theorem Stp.of {old xs : List UInt8} {out : List Sec} (ho : old.length ≤ 31) (hm : Mixed (begun [] old) 5 xs out) : Stp old xs out := by
  obtain ⟨h1, h2⟩ := begun_new [] old ho
  refine ⟨by rw [hm.len, begun_len]; rfl, fun j hj => ?_, fun j hj => ?_⟩
  · rcases hm.at_ (5 + j) with e | ⟨k, hk, e, _⟩
    · rw [e, begun_get, if_pos (by omega), Nat.add_sub_cancel_left]
    · rw [h1] at e; omega
  · rcases hm.at_ (13 + j) with e | ⟨k, hk, e, e'⟩
    · left; rw [e, begun_get, if_neg (by omega), if_pos (by omega)]
    · rw [h1] at e; rw [h2] at e'
      obtain rfl : k = j := by omega
      exact .inr e'
/-- what may be read behind n operations of a Format and a crash -/
structure Fmtd (old xs pl : List UInt8) (n : Nat) (out : List Sec) : Prop where
  len : out.length = 30
  pay : supGen ⟨out, []⟩ 5 ≠ 0 → supPay ⟨out, []⟩ 5 = pl ∨ (n < 2 ∧ (supPay ⟨out, []⟩ 5 = old ∨ supPay ⟨out, []⟩ 5 = xs))
  done : n = 4 → supGen ⟨out, []⟩ 5 ≠ 0
theorem fmtd_two {old xs pl : List UInt8} {n : Nat} {out : List Sec} (hl : out.length = 30) (hn : n < 2) (ho : old.length ≤ 31) (hx : xs.length ≤ 31)
    (ha : ∀ j, j < 8 → out[5 + j]? = some Sec.zero ∨ out[5 + j]? = (copySecs 1 old)[j]?) (hb : ∀ j, j < 8 → out[13 + j]? = some Sec.zero ∨ out[13 + j]? = (copySecs 2 xs)[j]?) : Fmtd old xs pl n out where
  len := hl
  pay hne := .inr ⟨hn, pay_two (mixZ (g := 1) (supA_len _ _ (by omega)) (by omega) (by omega) fun j hj => by rw [supA_get _ _ _ hj]; exact ha j hj) (mixZ (g := 2) (supB_len _ _ (by omega)) (by omega) (by omega) fun j hj => by rw [supB_get _ _ _ hj]; exact hb j hj) (by omega) (by omega) ho hx hne⟩
  done h := by omega
theorem fmtd_one {old xs pl : List UInt8} {n : Nat} {out : List Sec} (hl : out.length = 30) (hn : n ≠ 4) (hp : pl.length ≤ 31)
    (ha : ∀ j, j < 8 → out[5 + j]? = some Sec.zero ∨ out[5 + j]? = (copySecs 1 pl)[j]?) (hb : ∀ j, j < 8 → out[13 + j]? = some Sec.zero) : Fmtd old xs pl n out := by
  have hB : supB ⟨out, []⟩ 5 = List.replicate 8 Sec.zero := ext8 (supB_len _ _ (by omega)) (by simp) fun j hj => by rw [supB_get _ _ _ hj, List.getElem?_replicate, if_pos hj]; exact hb j hj
  exact ⟨hl, fun hne => .inl (pay_first (mixZ (g := 1) (supA_len _ _ (by omega)) (by omega) (by omega) fun j hj => by rw [supA_get _ _ _ hj]; exact ha j hj) (by rw [hB]; exact zero8_gen) (by omega) hp hne), fun h => absurd h hn⟩
theorem fmtd_done {old xs pl : List UInt8} {n : Nat} {out : List Sec} (hl : out.length = 30) (hp : pl.length ≤ 31)
    (ha : ∀ j, j < 8 → out[5 + j]? = (copySecs 1 pl)[j]?) (hb : ∀ j, j < 8 → out[13 + j]? = some Sec.zero) : Fmtd old xs pl n out := by
  have hB : supB ⟨out, []⟩ 5 = List.replicate 8 Sec.zero := ext8 (supB_len _ _ (by omega)) (by simp) fun j hj => by rw [supB_get _ _ _ hj, List.getElem?_replicate, if_pos hj]; exact hb j hj
  have hA : supA ⟨out, []⟩ 5 = copySecs 1 pl := ext8 (supA_len _ _ (by omega)) (copySecs_len _ _) fun j hj => by rw [supA_get _ _ _ hj]; exact ha j hj
  obtain ⟨_, h2, _⟩ := copyOk_copy 1 pl (by omega) hp
  exact ⟨hl, fun hne => .inl (pay_first (.inl hA) (by rw [hB]; exact zero8_gen) (by omega) hp hne), fun _ => by rw [supGen, hA, hB, h2, zero8_gen]; decide⟩
def wiped (out : List Sec) : List Sec := putAll out (putsAt ((5 : Nat) : Int) (List.replicate 16 Sec.zero))
theorem wiped_len (out : List Sec) : (wiped out).length = out.length := putAll_length _ _
theorem wiped_get (out : List Sec) (hl : out.length = 30) (i : Nat) : (wiped out)[i]? = if 5 ≤ i ∧ i < 21 then some Sec.zero else out[i]? := by
  rw [wiped, putAll_get _ _ _ _ (by rw [List.length_replicate]; omega), List.length_replicate]
  split
  · rename_i h; rw [List.getElem?_replicate, if_pos (by omega)]
  · rfl
theorem step_put {st l : List Sec} (hs : st.length = 30) (hl : l.length ≤ 16) : stepOp ⟨st, []⟩ ⟨0, 5, l⟩ = (0, ⟨st, putsAt ((5 : Nat) : Int) l⟩) := by
  rw [stepOp, if_neg (by simp), if_pos rfl, if_pos (by simp [insideB]; omega)]; rfl
theorem step_sync (d : Disk) : stepOp d ⟨1, 0, []⟩ = (0, ⟨d.newest, []⟩) := by rw [stepOp, if_neg (by simp), if_neg (by simp)]
theorem ok30 {st l : List Sec} (hs : st.length = 30) (hl : l.length ≤ 16) : (⟨st, putsAt ((5 : Nat) : Int) l⟩ : Disk).ok = true := by
  have h := stepOp_ok ⟨st, []⟩ ⟨0, 5, l⟩ (by simp [Disk.ok]; omega)
  rw [step_put hs hl] at h
  exact h
theorem ok_bare {l : List Sec} (h : l.length = 30) : (⟨l, []⟩ : Disk).ok = true := by simp [Disk.ok, h]
theorem runOps_cons {op : OpD} {r : List OpD} {d d' : Disk} {i : Nat} (h : stepOp d op = (0, d')) : runOps (op :: r) d i = runOps r d' (i + 1) := by rw [runOps, h, if_pos rfl]
def filled (out : List Sec) (pl : List UInt8) : List Sec := putAll (wiped out) (putsAt ((5 : Nat) : Int) (copySecs 1 pl))
theorem sync1 (out : List Sec) : stepOp ⟨out, putsAt ((5 : Nat) : Int) (List.replicate 16 Sec.zero)⟩ ⟨1, 0, []⟩ = (0, ⟨wiped out, []⟩) := step_sync _
theorem sync3 (out : List Sec) (pl : List UInt8) : stepOp ⟨wiped out, putsAt ((5 : Nat) : Int) (copySecs 1 pl)⟩ ⟨1, 0, []⟩ = (0, ⟨filled out pl, []⟩) := step_sync _
theorem fmt_cut {old xs pl : List UInt8} {out : List Sec} (h : Stp old xs out) (ho : old.length ≤ 31) (hx : xs.length ≤ 31) (hp : pl.length ≤ 31) (n : Nat) (hn : n ≤ 4) : ∃ d1, (runOps ((fmtRes 5 pl).take n) ⟨out, []⟩ 0).1 = d1 ∧ (runOps ((fmtRes 5 pl).take n) ⟨out, []⟩ 0).2.2 = 0 ∧ d1.ok = true ∧ d1.cache.length ≤ 1000000 ∧ ∀ o', CrashOf d1 o' → Fmtd old xs pl n o' := by
  have he : fmtErr 5 pl = 0 := by rw [fmtErr, if_neg (by omega), if_neg (by omega)]
  have hl := h.len
  have hw : (wiped out).length = 30 := by rw [wiped_len]; exact hl
  have r1 := step_put (l := List.replicate 16 Sec.zero) hl (by simp)
  have r3 := step_put (l := copySecs 1 pl) hw (by rw [copySecs_len]; omega)
  rw [fmtRes, if_pos he, fmtOps]
  match n, hn with
  | 0, _ => exact ⟨⟨out, []⟩, rfl, rfl, ok_bare hl, by simp, fun o' hc => by
      rw [crash_none hc]
      exact fmtd_two hl (by omega) ho hx (fun j hj => .inr (h.a j hj)) h.b⟩
  | 1, _ =>
    refine ⟨⟨out, putsAt ((5 : Nat) : Int) (List.replicate 16 Sec.zero)⟩, ?_, ?_, ok30 hl (by simp), by simp [putsAt_length], fun o' hc => ?_⟩
    · rw [List.take_succ_cons, List.take_zero, runOps_cons r1, runOps]
    · rw [List.take_succ_cons, List.take_zero, runOps_cons r1, runOps]
    · have hz : ∀ j : Nat, j < 16 → (List.replicate 16 Sec.zero)[j]? = some Sec.zero := fun j hj => by rw [List.getElem?_replicate, if_pos hj]
      refine fmtd_two (by rw [hc.1]; exact hl) (by omega) ho hx (fun j hj => ?_) (fun j hj => ?_)
      · rcases crash_puts hc (5 + j) with e | ⟨k, hk, _, e⟩
        · right; rw [e]; exact h.a j hj
        · left; rw [e]; exact hz k (by simpa using hk)
      · rcases crash_puts hc (13 + j) with e | ⟨k, hk, _, e⟩
        · rw [e]; exact h.b j hj
        · left; rw [e]; exact hz k (by simpa using hk)
  | 2, _ =>
    refine ⟨⟨wiped out, []⟩, ?_, ?_, ok_bare hw, by simp, fun o' hc => ?_⟩
    · rw [List.take_succ_cons, List.take_succ_cons, List.take_zero, runOps_cons r1, runOps_cons (sync1 out), runOps]
    · rw [List.take_succ_cons, List.take_succ_cons, List.take_zero, runOps_cons r1, runOps_cons (sync1 out), runOps]
    · rw [crash_none hc]
      exact fmtd_one hw (by omega) hp (fun j hj => .inl (by rw [wiped_get _ hl, if_pos (by omega)])) (fun j hj => by rw [wiped_get _ hl, if_pos (by omega)])
  | 3, _ =>
    refine ⟨⟨wiped out, putsAt ((5 : Nat) : Int) (copySecs 1 pl)⟩, ?_, ?_, ok30 hw (by rw [copySecs_len]; omega), by simp [putsAt_length, copySecs_len], fun o' hc => ?_⟩
    · rw [List.take_succ_cons, List.take_succ_cons, List.take_succ_cons, List.take_zero, runOps_cons r1, runOps_cons (sync1 out), runOps_cons r3, runOps]
    · rw [List.take_succ_cons, List.take_succ_cons, List.take_succ_cons, List.take_zero, runOps_cons r1, runOps_cons (sync1 out), runOps_cons r3, runOps]
    · refine fmtd_one (by rw [hc.1]; exact hw) (by omega) hp (fun j hj => ?_) (fun j hj => ?_)
      · rcases crash_puts hc (5 + j) with e | ⟨k, hk, ek, e⟩
        · left; rw [e, wiped_get _ hl, if_pos (by omega)]
        · obtain rfl : k = j := by omega
          exact .inr e
      · rcases crash_puts hc (13 + j) with e | ⟨k, hk, ek, e⟩
        · rw [e, wiped_get _ hl, if_pos (by omega)]
        · rw [copySecs_len] at hk; omega
  | 4, _ =>
    have hg : ∀ i : Nat, (filled out pl)[i]? = if 5 ≤ i ∧ i < 13 then (copySecs 1 pl)[i - 5]? else (wiped out)[i]? := fun i => by
      rw [filled, putAll_get _ _ _ _ (by rw [copySecs_len]; omega), copySecs_len]
    have hL : (filled out pl).length = 30 := by rw [filled, putAll_length]; exact hw
    refine ⟨⟨filled out pl, []⟩, ?_, ?_, ok_bare hL, by simp, fun o' hc => ?_⟩
    · rw [List.take_of_length_le (by simp), runOps_cons r1, runOps_cons (sync1 out), runOps_cons r3, runOps_cons (sync3 out pl), runOps]
    · rw [List.take_of_length_le (by simp), runOps_cons r1, runOps_cons (sync1 out), runOps_cons r3, runOps_cons (sync3 out pl), runOps]
    · rw [crash_none hc]
      exact fmtd_done hL hp (fun j hj => by rw [hg, if_pos (by omega), Nat.add_sub_cancel_left]) (fun j hj => by rw [hg, if_neg (by omega), wiped_get _ hl, if_pos (by omega)])
end Go.Proofs.YtnddgpkljpjjbaaDoor
