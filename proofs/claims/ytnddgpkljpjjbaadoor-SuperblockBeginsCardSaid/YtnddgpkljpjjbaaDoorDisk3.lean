/- Contracts: slices.Clone, disk.inside, disk.newest, disk.Read. -/
import Derived.Test.YtnddgpkljpjjbaaDoorDisk2
import Derived.Test.YtnddgpkljpjjbaaDoorTypes
namespace Go.Proofs.YtnddgpkljpjjbaaDoor
open Go.RowKit
set_option linter.unusedVariables false
set_option linter.unusedSimpArgs false
set_option maxHeartbeats 1000000 in
theorem clone_sec (v : Value) (xs : List Sec) (w : World) (hv : SlRep w v xs) (hb : xs.length * 8 ≤ 140737488355328) :
    Calls Tryd.prog 48 #[v] w (RetOwn 57 w xs) := by
  obtain ⟨a, c, rfl, hs, hc, hc2, hnil⟩ := hv.ex
  have HB := Lib.hid hb; clear hb
  cases a with
  | none =>
    obtain rfl := hnil rfl
    have hx : xs = [] := List.eq_nil_of_length_eq_zero (by omega)
    subst hx
    have hq := fun w : World => Lib.run_eql_slice_nil (P := Tryd.prog) w 32 57 none 0 0 0 0 Tryd.underlying32
    go_enter Tryd.func48, Tryd.ntmps48
    go_wp2
    go_ret
    exact ⟨_, rfl, Own.nil _ _ _, Below.refl _ _⟩
  | some a =>
    have hq := fun w : World => Lib.run_eql_slice_nil (P := Tryd.prog) w 32 57 (some a) xs.length c 0 0 Tryd.underlying32
    go_enter Tryd.func48, Tryd.ntmps48
    go_wp2_with (at_builtin; go_must (refine wpList_append_Own (α := Sec) rfl (.tmp 5) (.tmp 6) 32 57 rfl 8 elSec w.heap.size _ _ [] xs rfl (Own.empty _ _ _ (Nat.le_refl _)) rfl (hv.below ((Below.refl _ _).alloc (Nat.le_refl _) _)) (by simp; omega) (by simpa using HB.out) (by simp) ?_); intro v1 w1 ho1 hg1 hn1)
    go_ret
    have hB : Below w.heap.size w w1 := ((Below.refl _ _).alloc (Nat.le_refl _) _).grown hg1 (by simp) (by intro k hk; cases hk; exact Nat.le_refl _)
    exact ⟨_, rfl, by simpa using ho1, hB⟩

/-! ### disk.inside -/
def insideB (n : Nat) (at_ count : Int) : Bool := decide (0 ≤ at_) && decide (0 ≤ count) && decide (count ≤ n) && decide (at_ ≤ n - count)
set_option maxHeartbeats 1000000 in
theorem disk_inside (v : Value) (d : Disk) (x c : Int) (w : World) (hd : DiskRep w v d) :
    Calls Tryd.prog 57 #[v, .int .i64 x, .int .i64 c] w (RetB w (.bool (insideB d.stable.length x c))) := by
  obtain ⟨_, _, rfl, h1, h2⟩ := hd.ex
  obtain ⟨sa, sc, rfl, hs, hs1, hs2, _⟩ := h1.ex
  obtain ⟨ca, cc, rfl, hc, hc1, hc2, _⟩ := h2.ex
  clear hd h1 h2
  by_cases hx : 0 ≤ x
  · by_cases hc0 : 0 ≤ c
    · by_cases hcn : c ≤ d.stable.length
      · by_cases hl : x ≤ d.stable.length - c
        all_goals
          go_enter Tryd.func57, Tryd.ntmps57
          go_wp2
          go_ret
          exact ⟨ret_bool (by simp [insideB] <;> omega), (Below.refl _ _).alloc (Nat.le_refl _) _⟩
      · go_enter Tryd.func57, Tryd.ntmps57
        go_wp2
        go_ret
        exact ⟨ret_bool (by simp [insideB]; omega), (Below.refl _ _).alloc (Nat.le_refl _) _⟩
    · go_enter Tryd.func57, Tryd.ntmps57
      go_wp2
      go_ret
      exact ⟨ret_bool (by simp [insideB]; omega), (Below.refl _ _).alloc (Nat.le_refl _) _⟩
  · go_enter Tryd.func57, Tryd.ntmps57
    go_wp2
    go_ret
    exact ⟨ret_bool (by simp [insideB]; omega), (Below.refl _ _).alloc (Nat.le_refl _) _⟩

/-! ### disk.newest -/
/-- the newest contents of all sectors -/
def putAll (l : List Sec) : List Cached → List Sec
  | [] => l
  | c :: cs => putAll (l.set c.at_.toNat c.data) cs
def Disk.newest (d : Disk) : List Sec := putAll d.stable d.cache
theorem putAll_length (cs : List Cached) : ∀ l : List Sec, (putAll l cs).length = l.length := by
  induction cs with
  | nil => intro l; rfl
  | cons c cs ih => intro l; simp [putAll, ih]
theorem putAll_take (cs : List Cached) (k : Nat) (c : Cached) (hk : cs[k]? = some c) : ∀ l : List Sec, putAll l (cs.take (k + 1)) = (putAll l (cs.take k)).set c.at_.toNat c.data := by
  induction cs generalizing k with
  | nil => simp at hk
  | cons x xs ih =>
    intro l
    cases k with
    | zero => simp at hk; subst hk; simp [putAll]
    | succ k => simp only [List.take_succ_cons, putAll]; exact ih k (by simpa using hk) _
set_option maxHeartbeats 2000000 in
theorem disk_newest (v : Value) (d : Disk) (w : World) (hd : DiskRep w v d) (hok : d.ok = true) :
    Calls Tryd.prog 58 #[v] w (RetOwn 57 w d.newest) := by
  obtain ⟨_, _, rfl, h1, h2⟩ := hd.ex
  obtain ⟨sa, sc, rfl, hs, hs1, hs2, _⟩ := h1.ex
  obtain ⟨ca, cc, rfl, hc, hc1, hc2, _⟩ := h2.ex
  clear hd h2
  obtain ⟨hlen, hcache⟩ := Disk.ok_get d hok
  go_enter Tryd.func58, Tryd.ntmps58
  go_wp2_with (go_at_call 48; refine (clone_sec _ d.stable _ (h1.below ((Below.refl _ _).alloc (Nat.le_refl _) _)) (by omega)).mono ?_; rintro e w1 ⟨v1, rfl, ho1, hb1⟩; have c0 := (hb1.cell (p := ⟨w.heap.size, 0, none⟩) (by simp)).trans (show _ = some (Value.slice sa d.stable.length sc) from by simp [go_sem]); have c1 := (hb1.cell (p := ⟨w.heap.size, 1, none⟩) (by simp)).trans (show _ = some (Value.slice ca d.cache.length cc) from by simp [go_sem]))
  have hB1 : Below w.heap.size w w1 := below_then ((Below.refl _ _).alloc (Nat.le_refl _) _) (by simp) hb1
  have ho := ho1.lower (base' := w.heap.size) (by simp)
  clear ho1 hb1 c0 c1
  go_loopw [12] (fun i wr => ∃ k : Nat, k ≤ d.cache.length ∧ i = .int .i64 k ∧ Own w.heap.size 57 wr v1 (putAll d.stable (d.cache.take k)) ∧ Below w.heap.size w wr)
      (fun i _ => d.cache.length - (intOf i).toNat)
  case atStart => exact ⟨0, Nat.zero_le _, rfl, by simpa [putAll] using ho, hB1⟩
  case round =>
    obtain ⟨k, hk, rfl, hok, hB⟩ := hrel
    clear ho hB1
    by_cases hlt : k < d.cache.length
    · obtain ⟨x, hx⟩ : ∃ x, d.cache[k]? = some x := ⟨_, List.getElem?_eq_getElem hlt⟩
      obtain ⟨b, o, rfl, q0, q1, q2, q3, q4, q5, q6, q7, q8⟩ := (hc.below hB).cached hx
      have hin := hcache k x hx
      obtain ⟨i, hi⟩ := Int.eq_ofNat_of_zero_le hin.1
      have hil : i < d.stable.length := by omega
      have hpl := putAll_length (d.cache.take k) d.stable
      obtain ⟨g, cap, rfl, hg1, hg2, hg3, hg4⟩ := hok.shape (by rw [hpl]; omega)
      rw [hi] at q0
      rw [hpl] at hok ⊢
      have HP := Lib.hid hpl; have HI := Lib.hid hi; have HX := Lib.hid hx; clear hpl hi hx
      go_wp2_with ((with_reducible show wpList _ _ _ (⟨none, .store 57 (.tmp 21) (.tmp 20), _, _, _, _⟩ :: _) _ _); go_must (refine wpList_store_Own (α := Sec) rfl 57 (.tmp 21) (.tmp 20) rfl szSec w.heap.size 57 g i _ d.stable.length cap (putAll d.stable (d.cache.take k)) x.data _ (hok.below ((Below.refl _ _).alloc (Nat.le_refl _) _)) rfl rfl rfl (by rw [HP.out]; omega) rfl ?_); intro w2 ho2 hg2')
      have hB2 : Below w.heap.size w w2 := (hB.alloc hB.size _).grown hg2' (by have := hB.size; simp; omega) (by intro k hk; cases hk; omega)
      go_roundw
      case rel => exact ⟨k + 1, by omega, by go_num, by rw [putAll_take _ k x HX.out, HI.out]; exact ho2, hB2⟩
      case measure => simp [intOf]; omega
    · go_wp2
      go_ret
      exact ⟨_, rfl, by rw [List.take_of_length_le (by omega)] at hok; exact hok, hB⟩
end Go.Proofs.YtnddgpkljpjjbaaDoor
