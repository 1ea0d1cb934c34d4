/- Contracts: reference 03's SameSectors and reference 09's SameOps, at equal lists. -/
import Derived.Test.YtnddgpkljpjjbaaDoorEqSec
namespace Go.Proofs.YtnddgpkljpjjbaaDoor
open Go.RowKit
set_option linter.unusedVariables false
set_option linter.unusedSimpArgs false
set_option maxRecDepth 100000 in
set_option maxHeartbeats 2000000 in
theorem same_sectors (u v : Value) (xs : List Sec) (w : World) (hu : SlRep w u xs) (hv : SlRep w v xs) :
    Calls Tryd.prog 30 #[u, v] w (RetB w (.bool true)) := by
  have heqs := eq_sec
  obtain ⟨a1, c1, rfl, hs1, h11, h12, _⟩ := hu.ex
  obtain ⟨a2, c2, rfl, hs2, h21, h22, _⟩ := hv.ex
  go_enter Tryd.func30, Tryd.ntmps30
  go_wp2
  go_loopw [5] (fun i wr => ∃ k : Nat, k ≤ xs.length ∧ i = .int .i64 k ∧ Below w.heap.size w wr)
    (fun i _ => xs.length - (intOf i).toNat)
  case atStart => exact ⟨0, Nat.zero_le _, rfl, Below.refl _ _⟩
  case round =>
    obtain ⟨k, hk, rfl, hB⟩ := hrel
    by_cases hlt : k < xs.length
    · obtain ⟨x, hx⟩ : ∃ x, xs[k]? = some x := ⟨_, List.getElem?_eq_getElem hlt⟩
      obtain ⟨b1, o1, e1, q0, q1, q2, q3, q4, q5, q6, q7⟩ := (hs1.below hB).sec hx
      obtain ⟨b2, o2, e2, r0, r1, r2, r3, r4, r5, r6, r7⟩ := (hs2.below hB).sec hx
      subst e1
      subst e2
      clear hx
      go_wp2
      go_quiet (fail)
      go_wp2
      go_roundw
      case rel => exact ⟨k + 1, by omega, by go_num, below_drewN hB _⟩
      case measure => simp [intOf]; omega
    · go_wp2
      go_ret
      exact ⟨rfl, hB⟩
set_option maxRecDepth 100000 in
set_option maxHeartbeats 2000000 in
theorem same_ops (u v : Value) (xs : List OpD) (w : World) (hu : SlRep w u xs) (hv : SlRep w v xs) :
    Calls Tryd.prog 13 #[u, v] w (RetB w (.bool true)) := by
  obtain ⟨a1, c1, rfl, hs1, h11, h12, _⟩ := hu.ex
  obtain ⟨a2, c2, rfl, hs2, h21, h22, _⟩ := hv.ex
  go_enter Tryd.func13, Tryd.ntmps13
  go_wp2
  go_loopw [5] (fun i wr => ∃ k : Nat, k ≤ xs.length ∧ i = .int .i64 k ∧ Below w.heap.size w wr)
    (fun i _ => xs.length - (intOf i).toNat)
  case atStart => exact ⟨0, Nat.zero_le _, rfl, Below.refl _ _⟩
  case round =>
    obtain ⟨k, hk, rfl, hB⟩ := hrel
    by_cases hlt : k < xs.length
    · obtain ⟨x, hx⟩ : ∃ x, xs[k]? = some x := ⟨_, List.getElem?_eq_getElem hlt⟩
      obtain ⟨b1, o1, da1, dc1, e1, p0, p1, p2, hd1⟩ := (hs1.below hB).op hx
      obtain ⟨b2, o2, da2, dc2, e2, r0, r1, r2, hd2⟩ := (hs2.below hB).op hx
      subst e1
      subst e2
      clear hx
      go_wp2
      go_region_held3 (fun w' => Below wr.heap.size wr w' ∧ w'.cell? ⟨b1, o1 + k * 3, none⟩ = some (.int .i64 x.kind) ∧ w'.cell? ⟨b1, o1 + k * 3 + 1, none⟩ = some (.int .i64 x.at_) ∧ w'.cell? ⟨b1, o1 + k * 3 + 2, none⟩ = some (.slice da1 x.data.length dc1) ∧
          w'.cell? ⟨b2, o2 + k * 3, none⟩ = some (.int .i64 x.kind) ∧ w'.cell? ⟨b2, o2 + k * 3 + 1, none⟩ = some (.int .i64 x.at_) ∧ w'.cell? ⟨b2, o2 + k * 3 + 2, none⟩ = some (.slice da2 x.data.length dc2))
        (first | exact ⟨below_drew _, p0, p1, p2, r0, r1, r2⟩ | exact ⟨(by repeat' (first | exact Below.refl _ _ | exact below_drew _ | exact below_alloc _ _ | (refine below_step ?_ (by assumption)) | (refine below_step ?_ (below_alloc _ _)) | (refine below_step ?_ (below_drew _)))), keep ((by repeat' (first | exact Below.refl _ _ | exact below_drew _ | exact below_alloc _ _ | (refine below_step ?_ (by assumption)) | (refine below_step ?_ (below_alloc _ _)) | (refine below_step ?_ (below_drew _)))) : Below wr.heap.size wr _) p0, keep ((by repeat' (first | exact Below.refl _ _ | exact below_drew _ | exact below_alloc _ _ | (refine below_step ?_ (by assumption)) | (refine below_step ?_ (below_alloc _ _)) | (refine below_step ?_ (below_drew _)))) : Below wr.heap.size wr _) p1, keep ((by repeat' (first | exact Below.refl _ _ | exact below_drew _ | exact below_alloc _ _ | (refine below_step ?_ (by assumption)) | (refine below_step ?_ (below_alloc _ _)) | (refine below_step ?_ (below_drew _)))) : Below wr.heap.size wr _) p2, keep ((by repeat' (first | exact Below.refl _ _ | exact below_drew _ | exact below_alloc _ _ | (refine below_step ?_ (by assumption)) | (refine below_step ?_ (below_alloc _ _)) | (refine below_step ?_ (below_drew _)))) : Below wr.heap.size wr _) r0, keep ((by repeat' (first | exact Below.refl _ _ | exact below_drew _ | exact below_alloc _ _ | (refine below_step ?_ (by assumption)) | (refine below_step ?_ (below_alloc _ _)) | (refine below_step ?_ (below_drew _)))) : Below wr.heap.size wr _) r1, keep ((by repeat' (first | exact Below.refl _ _ | exact below_drew _ | exact below_alloc _ _ | (refine below_step ?_ (by assumption)) | (refine below_step ?_ (below_alloc _ _)) | (refine below_step ?_ (below_drew _)))) : Below wr.heap.size wr _) r2⟩ | go_keep)
        ((go_at_call 30; refine (same_sectors _ _ x.data _ (hd1.below (by repeat' (first | exact Below.refl _ _ | exact below_drew _ | exact below_alloc _ _ | (refine below_step ?_ (by assumption)) | (refine below_step ?_ (below_alloc _ _)) | (refine below_step ?_ (below_drew _))))) (hd2.below (by repeat' (first | exact Below.refl _ _ | exact below_drew _ | exact below_alloc _ _ | (refine below_step ?_ (by assumption)) | (refine below_step ?_ (below_alloc _ _)) | (refine below_step ?_ (below_drew _)))))).mono ?_; rintro e w3 ⟨rfl, hb3⟩))
      go_wp2
      go_roundw
      case rel => exact ⟨k + 1, by omega, by go_num, below_step hB (below_step (below_drew _) hb3)⟩
      case measure => simp [intOf]; omega
    · go_wp2
      go_ret
      exact ⟨rfl, hB⟩
end Go.Proofs.YtnddgpkljpjjbaaDoor
