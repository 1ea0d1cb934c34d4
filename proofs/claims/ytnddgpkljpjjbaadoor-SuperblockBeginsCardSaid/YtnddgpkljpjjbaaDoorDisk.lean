/- Contracts of the functions of layer 9 (disk) that read a disk. -/
import Derived.Test.YtnddgpkljpjjbaaDoorBase
import Derived.Test.YtnddgpkljpjjbaaDoorProg
namespace Go.Proofs.YtnddgpkljpjjbaaDoor
open Go.RowKit
set_option linter.unusedVariables false
set_option linter.unusedSimpArgs false
def Disk.ok (d : Disk) : Bool := decide (d.stable.length ≤ 4096) && d.cache.all (fun c => decide (0 ≤ c.at_) && decide (c.at_ < d.stable.length))
def Disk.errNum (d : Disk) : Int := if d.ok then 0 else 2
theorem Disk.ok_done (d : Disk) (k : Nat) (h1 : d.stable.length ≤ 4096) (hall : ∀ j c, j < k → d.cache[j]? = some c → 0 ≤ c.at_ ∧ c.at_ < d.stable.length) (hk : d.cache.length ≤ k) : d.ok = true := by
  simp only [Disk.ok, Bool.and_eq_true, decide_eq_true_eq, List.all_eq_true]
  refine ⟨h1, fun c hc => ?_⟩
  obtain ⟨j, hj⟩ := List.getElem?_of_mem hc
  have := (List.getElem?_eq_some_iff.1 hj).1
  exact hall j c (by omega) hj
theorem Disk.ok_bad (d : Disk) (k : Nat) (c : Cached) (hc : d.cache[k]? = some c) (hb : c.at_ < 0 ∨ d.stable.length ≤ c.at_) : d.ok = false := by
  rw [← Bool.not_eq_true]
  simp only [Disk.ok, Bool.and_eq_true, decide_eq_true_eq, List.all_eq_true]
  rintro ⟨_, h⟩
  have := h c (List.mem_of_getElem? hc)
  omega
theorem Disk.ok_big (d : Disk) (h : ¬ d.stable.length ≤ 4096) : d.ok = false := by simp [Disk.ok, h]
theorem Disk.ok_get (d : Disk) (h : d.ok = true) : d.stable.length ≤ 4096 ∧ ∀ (k : Nat) (c : Cached), d.cache[k]? = some c → 0 ≤ c.at_ ∧ c.at_ < d.stable.length := by
  simp only [Disk.ok, Bool.and_eq_true, decide_eq_true_eq, List.all_eq_true] at h
  exact ⟨h.1, fun k c hc => h.2 c (List.mem_of_getElem? hc)⟩

set_option maxHeartbeats 1000000 in
theorem ref09_Check (v : Value) (d : Disk) (w : World) (hd : DiskRep w v d) :
    Calls Tryd.prog 43 #[v] w (RetB w (.int .i64 d.errNum)) := by
  obtain ⟨_, _, rfl, h1, h2⟩ := hd.ex
  obtain ⟨sa, sc, rfl, hs, hs1, hs2, _⟩ := h1.ex
  obtain ⟨ca, cc, rfl, hc, hc1, hc2, _⟩ := h2.ex
  clear hd h1 h2
  by_cases h1 : d.stable.length ≤ 4096
  · have hdec : (decide ((4096:Int) < (d.stable.length : Int))) = false := by simp; omega
    go_enter Tryd.func43, Tryd.ntmps43
    go_wp2
    go_loopw [3] (fun i wr => ∃ k : Nat, k ≤ d.cache.length ∧ i = .int .i64 k ∧ (∀ j c, j < k → d.cache[j]? = some c → 0 ≤ c.at_ ∧ c.at_ < d.stable.length) ∧
        wr.cell? ⟨w.heap.size, 0, none⟩ = some (.slice sa d.stable.length sc) ∧ wr.cell? ⟨w.heap.size, 1, none⟩ = some (.slice ca d.cache.length cc) ∧ Below w.heap.size w wr)
      (fun i _ => d.cache.length - (intOf i).toNat)
    case atStart => exact ⟨0, Nat.zero_le _, rfl, by simp, by simp [go_sem], by simp [go_sem], (Below.refl _ _).alloc (Nat.le_refl _) _⟩
    case round =>
      obtain ⟨k, hk, rfl, hall, hc0, hc1', hB⟩ := hrel
      by_cases hlt : k < d.cache.length
      · obtain ⟨x, hx⟩ : ∃ x, d.cache[k]? = some x := ⟨_, List.getElem?_eq_getElem hlt⟩
        obtain ⟨b, o, rfl, q0, _⟩ := (hc.below hB).cached hx
        by_cases h3 : x.at_ < 0
        · go_wp2
          go_quiet (fail)
          go_wp2
          go_ret
          exact ⟨ret_int (by rw [Disk.errNum, Disk.ok_bad d k x hx (by omega)]; rfl), below_drewN hB _⟩
        · go_wp2
          go_quiet (fail)
          go_wp2
          · go_ret
            have h4 : x.at_ < 0 ∨ (d.stable.length : Int) ≤ x.at_ := by assumption
            exact ⟨ret_int (by rw [Disk.errNum, Disk.ok_bad d k x hx (by omega)]; rfl), below_drewN hB _⟩
          · have h4 : 0 ≤ x.at_ ∧ x.at_ < (d.stable.length : Int) := by assumption
            go_roundw
            case rel => exact ⟨k + 1, by omega, by go_num, fun j c hj hc => by
              rcases Nat.lt_or_ge j k with h | h
              · exact hall j c h hc
              · obtain rfl : j = k := by omega
                rw [hx] at hc; injection hc with hc; subst hc; exact h4, hc0, hc1', below_drewN hB _⟩
            case measure => simp [intOf]; omega
      · go_wp2
        go_ret
        exact ⟨ret_int (by rw [Disk.errNum, if_pos (Disk.ok_done d k h1 hall (by omega))]), hB⟩
  · go_enter Tryd.func43, Tryd.ntmps43
    go_wp2
    go_ret
    exact ⟨ret_int (by rw [Disk.errNum, Disk.ok_big d h1]; rfl), (Below.refl _ _).alloc (Nat.le_refl _) _⟩

/-! ### disk.Check -/
def badAt (n : Nat) (c : Cached) : Bool := decide (c.at_ < 0) || decide ((n : Int) ≤ c.at_)
set_option maxHeartbeats 1000000 in
/-- the closure: a cached sector that lies outside -/
theorem check1 (c : Cached) (n : Nat) (sa : Option Addr) (sc cb : Nat) (w : World) (hcell : w.cell? ⟨cb, 0, none⟩ = some (.slice sa n sc)) (hn : n ≤ 9223372036854775807) :
    Calls Tryd.prog 47 #[.agg (c.cells.toArray), .pointer (some ⟨cb, 0, none⟩)] w (RetB w (.bool (badAt n c))) := by
  have hcb : cb < w.heap.size := World.block_lt_of_cell? w _ hcell
  have hne : cb ≠ w.heap.size := by omega
  simp only [Cached.cells, Sec.cells, badAt]
  by_cases h1 : c.at_ < 0
  · go_enter Tryd.func47, Tryd.ntmps47
    go_wp2
    go_ret
    exact ⟨ret_bool (by simp [h1]), (Below.refl _ _).alloc (Nat.le_refl _) _⟩
  · go_enter Tryd.func47, Tryd.ntmps47
    go_wp2
    go_ret
    exact ⟨ret_bool (by simp; omega), (Below.refl _ _).alloc (Nat.le_refl _) _⟩
end Go.Proofs.YtnddgpkljpjjbaaDoor
