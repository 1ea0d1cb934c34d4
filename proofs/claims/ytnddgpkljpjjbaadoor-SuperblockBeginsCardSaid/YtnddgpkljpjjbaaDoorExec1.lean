/- disk.copied. -/
import Derived.Test.YtnddgpkljpjjbaaDoorStore
namespace Go.Proofs.YtnddgpkljpjjbaaDoor
open Go.RowKit
set_option linter.unusedVariables false
set_option linter.unusedSimpArgs false
set_option maxHeartbeats 1000000 in
theorem clone_cached (v : Value) (xs : List Cached) (w : World) (hv : SlRep w v xs) (hb : xs.length * 16 ≤ 140737488355328) :
    Calls Tryd.prog 53 #[v] w (RetOwn 109 w xs) := by
  obtain ⟨a, c, rfl, hs, hc, hc2, hnil⟩ := hv.ex
  have HB := Lib.hid hb; clear hb
  cases a with
  | none =>
    obtain rfl := hnil rfl
    have hx : xs = [] := List.eq_nil_of_length_eq_zero (by omega)
    subst hx
    have hq := fun w : World => Lib.run_eql_slice_nil (P := Tryd.prog) w 33 109 none 0 0 0 0 Tryd.underlying33
    go_enter Tryd.func53, Tryd.ntmps53
    go_wp2
    go_ret
    exact ⟨_, rfl, Own.nil _ _ _, Below.refl _ _⟩
  | some a =>
    have hq := fun w : World => Lib.run_eql_slice_nil (P := Tryd.prog) w 33 109 (some a) xs.length c 0 0 Tryd.underlying33
    go_enter Tryd.func53, Tryd.ntmps53
    go_wp2_with (at_builtin; go_must (refine wpList_append_Own (α := Cached) rfl (.tmp 5) (.tmp 6) 33 109 rfl 16 elCached w.heap.size _ _ [] xs rfl (Own.empty _ _ _ (Nat.le_refl _)) rfl (hv.below ((Below.refl _ _).alloc (Nat.le_refl _) _)) (by simp; omega) (by simpa using HB.out) (by simp) ?_); intro v1 w1 ho1 hg1 hn1)
    go_ret
    have hB : Below w.heap.size w w1 := ((Below.refl _ _).alloc (Nat.le_refl _) _).grown hg1 (by simp) (by intro k hk; cases hk; exact Nat.le_refl _)
    exact ⟨_, rfl, by simpa using ho1, hB⟩


theorem keepF {W w1 : World} (hb : Below W.heap.size W w1) {p : Addr} {v : Value} {b : Bool} (hc : W.cell? p = some v) (h : W.frozen? p = b) : w1.frozen? p = b := (hb.frozen (World.block_lt_of_cell? W p hc)).trans h
theorem Own.sets {α : Type} [PlainRep α] {B B' g : Nat} {e : TypeId} {w : World} {v a b : Value} {xs : List α} (h : Own B e w v xs) (hg : g < B) (hB : B' ≤ B) : Own B' e ((w.setCell ⟨g, 0, none⟩ a).setCell ⟨g, 1, none⟩ b) v xs :=
  ((h.grown (grown_setCell w g 0 a) (.inr (fun e => by have := h.base _ e; omega))).grown (grown_setCell _ g 1 b) (.inr (fun e => by have := h.base _ e; omega))).lower hB
/-- a disk whose memory is the call's own -/
def OwnDisk (B : Nat) (w : World) (s c : Value) (d : Disk) : Prop := Own B 57 w s d.stable ∧ Own B 109 w c d.cache
set_option maxRecDepth 100000 in
set_option maxHeartbeats 2000000 in
theorem disk_copied (v : Value) (d : Disk) (w : World) (hd : DiskRep w v d) (hb : d.stable.length * 8 ≤ 140737488355328) (hb' : d.cache.length * 16 ≤ 140737488355328) :
    Calls Tryd.prog 38 #[v] w (fun e w' => ∃ s c, e = .returned (.agg #[s, c]) ∧ OwnDisk w.heap.size w' s c d ∧ Below w.heap.size w w') := by
  obtain ⟨s0, c0, rfl, h1, h2⟩ := hd.ex
  obtain ⟨sa, sc, rfl, _⟩ := h1.ex
  obtain ⟨ca, cc, rfl, _⟩ := h2.ex
  go_enter Tryd.func38, Tryd.ntmps38
  go_wp2
  have kb := heap_alloc2_old w (.cells #[.slice sa d.stable.length sc, .slice ca d.cache.length cc] 35) (.cells #[.slice none 0 0, .slice none 0 0] 35)
  have kr := heap_alloc2_new w (.cells #[.slice sa d.stable.length sc, .slice ca d.cache.length cc] 35) (.cells #[.slice none 0 0, .slice none 0 0] 35)
  have hB0 := below_alloc2 w (.cells #[.slice sa d.stable.length sc, .slice ca d.cache.length cc] 35) (.cells #[.slice none 0 0, .slice none 0 0] 35)
  generalize (w.alloc (.cells #[.slice sa d.stable.length sc, .slice ca d.cache.length cc] 35)).alloc (.cells #[.slice none 0 0, .slice none 0 0] 35) = W0 at *
  have hd0 : Below W0.heap.size W0 W0.drew := below_drew _
  have bc0 := cell_of_row W0 _ 0 _ _ _ kb
  have bc1 := cell_of_row W0 _ 1 _ _ _ kb
  have bf0 := frozen_of_row W0 _ 0 _ _ kb
  have bf1 := frozen_of_row W0 _ 1 _ _ kb
  simp at bc0 bc1
  have rc0 := cell_of_row W0 _ 0 _ _ _ kr
  have rc1 := cell_of_row W0 _ 1 _ _ _ kr
  have rf0 := frozen_of_row W0 _ 0 _ _ kr
  have rf1 := frozen_of_row W0 _ 1 _ _ kr
  simp at rc0 rc1
  have xb0 := keep hd0 bc0; have xb1 := keep hd0 bc1; have xr0 := keep hd0 rc0; have xr1 := keep hd0 rc1; have xf0 := keepF hd0 rc0 rf0; have xf1 := keepF hd0 rc1 rf1
  have s1 := (h1.below hB0).below hd0; have s2 := (h2.below hB0).below hd0
  go_region_with (first
      | (go_at_call 48; refine (clone_sec _ d.stable _ (by assumption) hb).mono ?_; rintro e w3 ⟨v3, rfl, ho3, hb3⟩; obtain ⟨a3, n3, rfl, _⟩ := ho3.sl.ex; have yb0 : w3.cell? ⟨w.heap.size, 0, none⟩ = some (.slice sa d.stable.length sc) := keep hb3 (by assumption); have yb1 : w3.cell? ⟨w.heap.size, 1, none⟩ = some (.slice ca d.cache.length cc) := keep hb3 (by assumption); have yr0 : w3.cell? ⟨w.heap.size + 1, 0, none⟩ = some (.slice none 0 0) := keep hb3 (by assumption); have yr1 : w3.cell? ⟨w.heap.size + 1, 1, none⟩ = some (.slice none 0 0) := keep hb3 (by assumption); have yf0 : w3.frozen? ⟨w.heap.size + 1, 0, none⟩ = false := keepF hb3 (v := .slice none 0 0) (by assumption) (by assumption); have yf1 : w3.frozen? ⟨w.heap.size + 1, 1, none⟩ = false := keepF hb3 (v := .slice none 0 0) (by assumption) (by assumption); have s2' := SlRep.below (v := .slice ca d.cache.length cc) (xs := d.cache) (by assumption) hb3; have s1' := SlRep.below (v := .slice sa d.stable.length sc) (xs := d.stable) (by assumption) hb3)
      | (go_at_call 53; refine (clone_cached _ d.cache _ (by assumption) hb').mono ?_; rintro e w4 ⟨v4, rfl, ho4, hb4⟩; obtain ⟨a4, n4, rfl, _⟩ := ho4.sl.ex; have yb0 : w4.cell? ⟨w.heap.size, 0, none⟩ = some (.slice sa d.stable.length sc) := keep hb4 (by assumption); have yb1 : w4.cell? ⟨w.heap.size, 1, none⟩ = some (.slice ca d.cache.length cc) := keep hb4 (by assumption); have yr0 : w4.cell? ⟨w.heap.size + 1, 0, none⟩ = some (.slice none 0 0) := keep hb4 (by assumption); have yr1 : w4.cell? ⟨w.heap.size + 1, 1, none⟩ = some (.slice none 0 0) := keep hb4 (by assumption); have yf0 : w4.frozen? ⟨w.heap.size + 1, 0, none⟩ = false := keepF hb4 (v := .slice none 0 0) (by assumption) (by assumption); have yf1 : w4.frozen? ⟨w.heap.size + 1, 1, none⟩ = false := keepF hb4 (v := .slice none 0 0) (by assumption) (by assumption); have s1' := SlRep.below (v := .slice sa d.stable.length sc) (xs := d.stable) (by assumption) hb4; have s2' := SlRep.below (v := .slice ca d.cache.length cc) (xs := d.cache) (by assumption) hb4))
  all_goals
    have hz : w.heap.size + 1 < W0.drew.heap.size := (Array.getElem?_eq_some_iff.1 kr).1
    have hBd : Below w.heap.size w W0.drew := below_step hB0 hd0
    go_wp2
    refine bodyPost_ret (v := .agg #[.slice a3 d.stable.length n3, .slice a4 d.cache.length n4]) (by simp [results, Tryd.results38, go_sem, yr0, yr1]) rfl ?_
    first
      | (have hz3 := hb3.size
         have hBf : Below w.heap.size w w4 := below_step (below_step hBd hb3) hb4
         exact ⟨_, _, rfl, ⟨(ho3.below hb4).sets (by omega) (by omega), ho4.sets (by omega) (by omega)⟩, (hBf.setCell (p := ⟨w.heap.size + 1, 0, none⟩) (by simp) _).setCell (p := ⟨w.heap.size + 1, 1, none⟩) (by simp) _⟩)
      | (have hz3 := hb4.size
         have hBf : Below w.heap.size w w3 := below_step (below_step hBd hb4) hb3
         exact ⟨_, _, rfl, ⟨ho3.sets (by omega) (by omega), (ho4.below hb3).sets (by omega) (by omega)⟩, (hBf.setCell (p := ⟨w.heap.size + 1, 0, none⟩) (by simp) _).setCell (p := ⟨w.heap.size + 1, 1, none⟩) (by simp) _⟩)
end Go.Proofs.YtnddgpkljpjjbaaDoor
