/- the executor's sync and write. -/
import Derived.Test.YtnddgpkljpjjbaaDoorExec1
namespace Go.Proofs.YtnddgpkljpjjbaaDoor
open Go.RowKit
set_option linter.unusedVariables false
set_option linter.unusedSimpArgs false
/-- the executor's box at xb holds the disk d, whose memory was made since w0 -/
def ExecW (w0 w : World) (xb : Nat) (d : Disk) : Prop := ∃ s c, w.heap[xb]? = some (.cells #[s, c] 90 (0, 0)) ∧ OwnDisk w0.heap.size w s c d ∧ Below w0.heap.size w0 w ∧ w0.heap.size ≤ xb
/-- but for block xb and the blocks of type t, cells lie as they lay -/
def KeepT (t : TypeId) (xb : Nat) (w w' : World) : Prop := w.heap.size ≤ w'.heap.size ∧ ∀ k cs t' fz, w.heap[k]? = some (.cells cs t' fz) → k ≠ xb → t' ≠ t → w'.heap[k]? = some (.cells cs t' fz)
theorem KeepT.refl (t : TypeId) (xb : Nat) (w : World) : KeepT t xb w w := ⟨Nat.le_refl _, fun k cs t' fz h _ _ => h⟩
theorem KeepT.trans {t : TypeId} {xb : Nat} {w w1 w2 : World} (h : KeepT t xb w w1) (k : KeepT t xb w1 w2) : KeepT t xb w w2 := ⟨Nat.le_trans h.1 k.1, fun j cs t' fz h1 h2 h3 => k.2 j cs t' fz (h.2 j cs t' fz h1 h2 h3) h2 h3⟩
theorem KeepT.of_below {t : TypeId} {xb : Nat} {w w' : World} (h : Below w.heap.size w w') : KeepT t xb w w' := ⟨h.size, fun k cs t' fz h1 _ _ => keepB h h1⟩
theorem KeepT.set {t : TypeId} {xb i : Nat} {w : World} {v : Value} : KeepT t xb w (w.setCell ⟨xb, i, none⟩ v) := ⟨by simp, fun k cs t' fz h1 h2 _ => (block_set h2).trans h1⟩
theorem heap_two0 {w : World} {g : Nat} {a b v : Value} {t : TypeId} (h : w.heap[g]? = some (.cells #[a, b] t (0, 0))) : (w.setCell ⟨g, 0, none⟩ v).heap[g]? = some (.cells #[v, b] t (0, 0)) := by
  obtain ⟨hlt, hk⟩ := Array.getElem?_eq_some_iff.1 h
  show (w.heap.modify g _)[g]? = _
  rw [Array.getElem?_eq_getElem (by rw [Array.size_modify]; exact hlt), Array.getElem_modify_self, hk]
  rfl
theorem heap_two1 {w : World} {g : Nat} {a b v : Value} {t : TypeId} (h : w.heap[g]? = some (.cells #[a, b] t (0, 0))) : (w.setCell ⟨g, 1, none⟩ v).heap[g]? = some (.cells #[a, v] t (0, 0)) := by
  obtain ⟨hlt, hk⟩ := Array.getElem?_eq_some_iff.1 h
  show (w.heap.modify g _)[g]? = _
  rw [Array.getElem?_eq_getElem (by rw [Array.size_modify]; exact hlt), Array.getElem_modify_self, hk]
  rfl
/-- a block of another type is not the slice's own -/
theorem Own.other_type {α : Type} [Rep α] {base : Nat} {e : TypeId} {w : World} {v : Value} {xs : List α} (h : Own base e w v xs) {k : Nat} {cs : Array Value} {t : TypeId} {fz : Nat × Nat} (hk : w.heap[k]? = some (.cells cs t fz)) (ht : t ≠ e) : v.ownBlock ≠ some k := fun e' => by
  obtain ⟨css, h0, h1, hh⟩ := h.ex
  rcases hh.2 with ⟨rfl, _⟩ | ⟨g, cap, cur, rfl, _, hgb, _⟩
  · cases e'
  · obtain rfl : g = k := by simpa [Value.ownBlock] using e'
    rw [hk] at hgb; cases hgb; exact ht rfl
set_option maxHeartbeats 1000000 in
theorem exec_sync (w0 w : World) (xb : Nat) (d : Disk) (k p : Int) (da : Option Addr) (dn dc : Nat) (h : ExecW w0 w xb d) (hok : d.ok = true) :
    Calls Tryd.prog 55 #[.pointer (some ⟨xb, 0, none⟩), .agg #[.int .i64 k, .int .i64 p, .slice da dn dc]] w (fun e w' => e = .returned (.int .i64 0) ∧ ExecW w0 w' xb ⟨d.newest, []⟩ ∧ KeepT 109 xb w w') := by
  obtain ⟨s, c, hx, ⟨ho1, ho2⟩, hB, hxb⟩ := h
  have hd : DiskRep w (.agg #[s, c]) d := ⟨s, c, rfl, ho1.sl, ho2.sl⟩
  obtain ⟨sa, sn, rfl, _⟩ := ho1.sl.ex
  obtain ⟨ca, cn, rfl, _⟩ := ho2.sl.ex
  have xc0 := cell_of_row w _ 0 _ _ _ hx
  have xc1 := cell_of_row w _ 1 _ _ _ hx
  have xf0 := frozen_of_row w _ 0 _ _ hx
  have xf1 := frozen_of_row w _ 1 _ _ hx
  simp at xc0 xc1
  have hz : xb < w.heap.size := (Array.getElem?_eq_some_iff.1 hx).1
  have HX := Lib.hid hx; clear hx
  go_enter Tryd.func55, Tryd.ntmps55
  go_wp2_with (go_at_call 58; refine (disk_newest _ d _ (hd.below (below_alloc w _)) hok).mono ?_; rintro e w1 ⟨v1, rfl, ho3, hb3⟩; obtain ⟨a1, n1, rfl, _⟩ := ho3.sl.ex; have kx := keepB hb3 (keepB (below_alloc w _) HX.out); have yc0 := cell_of_row w1 _ 0 _ _ _ kx; have yc1 := cell_of_row w1 _ 1 _ _ _ kx; have yf0 := frozen_of_row w1 _ 0 _ _ kx; have yf1 := frozen_of_row w1 _ 1 _ _ kx; simp at yc0 yc1)
  go_ret
  have hBf : Below w.heap.size w w1 := below_step (below_alloc w _) hb3
  have hne : ∀ k, (Value.slice a1 d.newest.length n1).ownBlock = some k → k ≠ xb := fun k hk => by have := ho3.base k hk; simp at this; omega
  refine ⟨rfl, ⟨_, _, heap_two1 (heap_two0 kx), ⟨?_, Own.nil _ _ _⟩, ?_, hxb⟩, ?_⟩
  · exact ((ho3.grown (grown_setCell w1 xb 0 _) (.inr (fun e => hne _ e rfl))).grown (grown_setCell _ xb 1 _) (.inr (fun e => hne _ e rfl))).lower (by have := hB.size; simp; omega)
  · exact ((below_step hB hBf).setCell (p := ⟨xb, 0, none⟩) hxb _).setCell (p := ⟨xb, 1, none⟩) hxb _
  · exact ((KeepT.of_below hBf).trans KeepT.set).trans KeepT.set
end Go.Proofs.YtnddgpkljpjjbaaDoor
