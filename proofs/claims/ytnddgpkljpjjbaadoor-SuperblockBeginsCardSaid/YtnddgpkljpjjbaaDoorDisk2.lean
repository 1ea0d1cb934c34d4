/- Contracts of slices.IndexFunc and slices.ContainsFunc over cached sectors, and of disk.Check. -/
import Derived.Test.YtnddgpkljpjjbaaDoorDisk
namespace Go.Proofs.YtnddgpkljpjjbaaDoor
open Go.RowKit
set_option linter.unusedVariables false
set_option linter.unusedSimpArgs false
/-- the index of the first element that meets p, or -1 -/
def firstIdx {α : Type} (p : α → Bool) : List α → Int
  | [] => -1
  | x :: xs => if p x then 0 else if firstIdx p xs < 0 then -1 else firstIdx p xs + 1
theorem firstIdx_hit {α : Type} (p : α → Bool) : ∀ (xs : List α) (k : Nat) (x : α), xs[k]? = some x → p x = true → (∀ j y, j < k → xs[j]? = some y → p y = false) → firstIdx p xs = k
  | [], k, x, h, _, _ => by simp at h
  | y :: ys, 0, x, h, hp, _ => by simp at h; subst h; simp [firstIdx, hp]
  | y :: ys, k + 1, x, h, hp, hb => by
    have h1 := firstIdx_hit p ys k x (by simpa using h) hp (fun j z hj hz => hb (j + 1) z (by omega) (by simpa using hz))
    have h0 : p y = false := hb 0 y (by omega) rfl
    simp only [firstIdx, h0, h1]
    rw [if_neg (by simp), if_neg (by omega)]; omega
theorem firstIdx_miss {α : Type} (p : α → Bool) : ∀ (xs : List α), (∀ (j : Nat) y, xs[j]? = some y → p y = false) → firstIdx p xs = -1
  | [], _ => rfl
  | y :: ys, hb => by
    have h1 := firstIdx_miss p ys (fun j z hz => hb (j + 1) z (by simpa using hz))
    have h0 : p y = false := hb 0 y rfl
    simp [firstIdx, h0, h1]
theorem firstIdx_any {α : Type} (p : α → Bool) : ∀ (xs : List α), decide (0 ≤ firstIdx p xs) = xs.any p
  | [] => by simp [firstIdx]
  | y :: ys => by
    have := firstIdx_any p ys
    simp only [List.any_cons, ← this, firstIdx]
    rcases Bool.eq_false_or_eq_true (p y) with h0 | h0
    · simp [h0]
    · simp only [h0, Bool.false_eq_true, if_false, Bool.false_or]
      by_cases h : firstIdx p ys < 0
      · rw [if_pos h]; simp; omega
      · rw [if_neg h]; simp; omega

set_option maxHeartbeats 1000000 in
theorem indexFunc_cached (v : Value) (xs : List Cached) (n : Nat) (sa : Option Addr) (sc cb : Nat) (w : World) (hcell : w.cell? ⟨cb, 0, none⟩ = some (.slice sa n sc)) (hn : n ≤ 9223372036854775807) (hv : SlRep w v xs) :
    Calls Tryd.prog 61 #[v, .func (.func 47) #[] #[.pointer (some ⟨cb, 0, none⟩)]] w (RetB w (.int .i64 (firstIdx (badAt n) xs))) := by
  obtain ⟨ca, cc, rfl, hc, hc1, hc2, _⟩ := hv.ex
  clear hv
  have hcb : cb < w.heap.size := World.block_lt_of_cell? w _ hcell
  go_enter Tryd.func61, Tryd.ntmps61
  go_wp2
  go_loopw [8] (fun i wr => ∃ k : Nat, k ≤ xs.length ∧ i = .int .i64 k ∧ (∀ j c, j < k → xs[j]? = some c → badAt n c = false) ∧ Below w.heap.size w wr)
      (fun i _ => xs.length - (intOf i).toNat)
  case atStart => exact ⟨0, Nat.zero_le _, rfl, by simp, Below.refl _ _⟩
  case round =>
    obtain ⟨k, hk, rfl, hall, hB⟩ := hrel
    by_cases hlt : k < xs.length
    · obtain ⟨x, hx⟩ : ∃ x, xs[k]? = some x := ⟨_, List.getElem?_eq_getElem hlt⟩
      obtain ⟨b, o, rfl, q0, q1, q2, q3, q4, q5, q6, q7, q8⟩ := (hc.below hB).cached hx
      have hcell' : wr.cell? ⟨cb, 0, none⟩ = some (.slice sa n sc) := (hB.cell (by exact hcb)).trans hcell
      by_cases hb : badAt n x = true
      · go_wp2_with fail
        refine (check1 x n sa sc cb wr hcell' hn).mono ?_
        rw [hb]
        rintro e w' ⟨rfl, hB'⟩
        go_wp2
        go_ret
        exact ⟨ret_int (by rw [firstIdx_hit _ xs k x hx hb hall]), below_then hB hB.size hB'⟩
      · have hb' : badAt n x = false := by simpa using hb
        go_wp2_with fail
        refine (check1 x n sa sc cb wr hcell' hn).mono ?_
        rw [hb']
        rintro e w' ⟨rfl, hB'⟩
        go_wp2
        go_roundw
        case rel => exact ⟨k + 1, by omega, by go_num, fun j c hj hc => by
              rcases Nat.lt_or_ge j k with h | h
              · exact hall j c h hc
              · obtain rfl : j = k := by omega
                rw [hx] at hc; injection hc with hc; subst hc; exact hb', below_then hB hB.size hB'⟩
        case measure => simp [intOf]; omega
    · go_wp2
      go_ret
      exact ⟨ret_int (by rw [firstIdx_miss _ xs (fun j y hy => hall j y (by have := (List.getElem?_eq_some_iff.1 hy).1; omega) hy)]), hB⟩

set_option maxHeartbeats 1000000 in
theorem containsFunc_cached (v : Value) (xs : List Cached) (n : Nat) (sa : Option Addr) (sc cb : Nat) (w : World) (hcell : w.cell? ⟨cb, 0, none⟩ = some (.slice sa n sc)) (hn : n ≤ 9223372036854775807) (hv : SlRep w v xs) :
    Calls Tryd.prog 46 #[v, .func (.func 47) #[] #[.pointer (some ⟨cb, 0, none⟩)]] w (RetB w (.bool (xs.any (badAt n)))) := by
  go_enter Tryd.func46, Tryd.ntmps46
  go_wp2_with (go_at_call 61; refine (indexFunc_cached v xs n sa sc cb _ hcell hn hv).mono ?_; rintro e w' ⟨rfl, hB'⟩)
  go_ret
  exact ⟨ret_bool (firstIdx_any _ _), hB'⟩

theorem Disk.errNum_any (d : Disk) (h : d.stable.length ≤ 4096) : d.errNum = if d.cache.any (badAt d.stable.length) then 2 else 0 := by
  have : d.ok = !d.cache.any (badAt d.stable.length) := by
    simp only [Disk.ok, h, decide_true, Bool.true_and, List.not_any_eq_all_not]
    congr 1
    funext c
    simp only [badAt, Bool.not_or]
    rw [Bool.eq_iff_iff]; simp
  rw [Disk.errNum, this]
  cases d.cache.any (badAt d.stable.length) <;> rfl
set_option maxHeartbeats 1000000 in
theorem disk_Check (v : Value) (d : Disk) (w : World) (hd : DiskRep w v d) :
    Calls Tryd.prog 36 #[v] w (RetB w (.int .i64 d.errNum)) := by
  obtain ⟨_, _, rfl, h1, h2⟩ := hd.ex
  obtain ⟨sa, sc, rfl, hs, hs1, hs2, _⟩ := h1.ex
  obtain ⟨ca, cc, rfl, hc, hc1, hc2, _⟩ := h2.ex
  clear hd h1
  by_cases h1 : d.stable.length ≤ 4096
  · go_enter Tryd.func36, Tryd.ntmps36
    go_wp2_with (go_at_call 46; refine (containsFunc_cached _ d.cache d.stable.length sa sc w.heap.size _ (by simp [go_sem]) (by omega) (h2.below ((Below.refl _ _).alloc (Nat.le_refl _) _))).mono ?_; rintro e w' ⟨rfl, hB'⟩)
    all_goals go_ret
    all_goals have hBB : Below w.heap.size w w' := below_then ((Below.refl _ _).alloc (Nat.le_refl _) _) (by simp) hB'
    · have h : 4096 < (d.stable.length : Int) ∨ d.cache.any (badAt d.stable.length) = true := by assumption
      exact ⟨ret_int (by rw [Disk.errNum_any d h1, if_pos (by rcases h with h | h; omega; exact h)]), hBB⟩
    · have h : (d.stable.length : Int) ≤ 4096 ∧ d.cache.any (badAt d.stable.length) = false := by assumption
      exact ⟨ret_int (by rw [Disk.errNum_any d h1, if_neg (by rw [h.2]; simp)]), hBB⟩
  · go_enter Tryd.func36, Tryd.ntmps36
    go_wp2
    go_ret
    exact ⟨ret_int (by rw [Disk.errNum, Disk.ok_big d h1]; rfl), (Below.refl _ _).alloc (Nat.le_refl _) _⟩
end Go.Proofs.YtnddgpkljpjjbaaDoor
