/- Contracts: the reference's Newest and Read. -/
import Derived.Test.YtnddgpkljpjjbaaDoorDisk4
import Derived.StillTailTactics
namespace Go.Proofs.YtnddgpkljpjjbaaDoor
open Go.RowKit
set_option linter.unusedVariables false
set_option linter.unusedSimpArgs false
set_option maxRecDepth 100000 in
set_option maxHeartbeats 4000000 in
theorem ref09_Newest (v : Value) (d : Disk) (w : World) (hd : DiskRep w v d) (hok : d.ok = true) :
    Calls Tryd.prog 60 #[v] w (RetOwn 57 w d.newest) := by
  obtain ⟨_, _, rfl, h1, h2⟩ := hd.ex
  obtain ⟨sa, sc, rfl, hs, hs1, hs2, _⟩ := h1.ex
  obtain ⟨ca, cc, rfl, hc, hc1, hc2, _⟩ := h2.ex
  clear hd h2
  obtain ⟨hlen, hcache⟩ := Disk.ok_get d hok
  go_enter Tryd.func60, Tryd.ntmps60
  go_wp2_with (at_builtin; go_must (refine wpList_append_Own (α := Sec) rfl (.tmp 5) (.tmp 7) 32 57 rfl 8 elSec (w.heap.size + 1) _ _ [] d.stable rfl (Own.nil _ _ _) rfl (h1.below (below_alloc _ _)) (by simp; omega) (by simp; omega) (by simp) ?_); intro v1 w1 ho1 hg1 hn1; obtain ⟨hb1⟩ : Nonempty (Below (w.alloc (.cells #[.slice sa d.stable.length sc, .slice ca d.cache.length cc] 35)).heap.size (w.alloc (.cells #[.slice sa d.stable.length sc, .slice ca d.cache.length cc] 35)) w1) := ⟨below_of_grown hg1⟩; have c1 : w1.cell? ⟨w.heap.size, 1, none⟩ = some (.slice ca d.cache.length cc) := keep hb1 (by simp [go_sem]))
  have hB1 : Below w.heap.size w w1 := below_step (below_alloc _ _) hb1
  have hlt1 : w.heap.size < w1.heap.size := by have := hb1.size; simp at this; omega
  clear hb1 hg1
  simp only [List.nil_append] at ho1
  go_loopw [4] (fun i wr => ∃ k : Nat, k ≤ d.cache.length ∧ i = .int .i64 k ∧ Own (w.heap.size + 1) 57 wr v1 (putAll d.stable (d.cache.take k)) ∧ wr.cell? ⟨w.heap.size, 1, none⟩ = some (.slice ca d.cache.length cc) ∧ w.heap.size < wr.heap.size ∧ Below w.heap.size w wr)
      (fun i _ => d.cache.length - (intOf i).toNat)
  case atStart => exact ⟨0, Nat.zero_le _, rfl, by simpa [putAll] using ho1, c1, hlt1, hB1⟩
  case round =>
    obtain ⟨k, hk, rfl, hok, hc1', hz, hB⟩ := hrel
    clear ho1 hB1 c1 hlt1
    by_cases hlt : k < d.cache.length
    · obtain ⟨x, hx⟩ : ∃ x, d.cache[k]? = some x := ⟨_, List.getElem?_eq_getElem hlt⟩
      obtain ⟨b, o, rfl, q0, q1, q2, q3, q4, q5, q6, q7, q8⟩ := (hc.below hB).cached hx
      have hin := hcache k x hx
      obtain ⟨i, hi⟩ := Int.eq_ofNat_of_zero_le hin.1
      have hil : i < d.stable.length := by omega
      have hpl := putAll_length (d.cache.take k) d.stable
      obtain ⟨g, cap, rfl, hg1, hg2, hg3, hg4⟩ := hok.shape (by rw [hpl]; omega)
      rw [hi] at q0
      rw [hpl] at hok ⊢
      have HP := Lib.hid hpl; have HI := Lib.hid hi; have HX := Lib.hid hx; clear hpl hi hx hin hcache
      go_wp2_with fail
      go_still_tail 14, (by kernel_rfl)
      refine wpList_store_Own (α := Sec) (by rfl) 57 (.tmp 29) (.tmp 28) (by rfl) szSec (w.heap.size + 1) 57 g i _ d.stable.length cap (putAll d.stable (d.cache.take k)) x.data _ hok.drew (by rfl) (by rfl) (by rfl) (by rw [HP.out]; omega) (by rfl) ?_
      intro w2 ho2 hg2'
      have c2 : w2.cell? ⟨w.heap.size, 1, none⟩ = some (.slice (some ⟨b, o, none⟩) d.cache.length cc) := hg2'.cell (by exact hc1') (by simp; omega)
      have hz2 : w.heap.size < w2.heap.size := Nat.lt_of_lt_of_le hz hg2'.size
      have hB2 : Below w.heap.size w w2 := hB.drew.grown hg2' (by have := hB.size; exact this) (by intro k hk; cases hk; omega)
      go_wp2
      go_roundw
      case rel => exact ⟨k + 1, by omega, by go_num, by rw [putAll_take _ k x HX.out, HI.out]; exact ho2, c2, hz2, hB2⟩
      case measure => simp [intOf]; omega
    · go_wp2
      go_ret
      exact ⟨_, rfl, by rw [List.take_of_length_le (by omega)] at hok; exact hok.lower (by omega), hB⟩

theorem insideB_ref (n : Nat) (s c : Int) : insideB n s c = !(decide (s < 0) || decide (c < 0) || decide ((n : Int) < c) || decide ((n : Int) - c < s)) := by
  unfold insideB
  rw [Bool.eq_iff_iff]
  simp
set_option maxHeartbeats 4000000 in
theorem ref09_Read_ok (v : Value) (d : Disk) (s c : Nat) (w : World) (hd : DiskRep w v d) (hk : d.ok = true) (hsc : s + c ≤ d.stable.length) :
    Calls Tryd.prog 44 #[v, .agg #[.int .i64 s, .int .i64 c]] w (RetSl2 w ((d.newest.drop s).take c)) := by
  obtain ⟨_, _, rfl, h1, h2⟩ := hd.ex
  obtain ⟨sa, sc, rfl, hs, hs1, hs2, _⟩ := h1.ex
  obtain ⟨ca, cc, rfl, hc, hc1, hc2, _⟩ := h2.ex
  clear h1 h2
  have he := errNum_ok hk
  have hlen := (Disk.ok_get d hk).1
  have hnl : d.newest.length = d.stable.length := putAll_length _ _
  have HNL := Lib.hid hnl; clear hnl
  go_enter Tryd.func44, Tryd.ntmps44
  go_wp2_with (first | (go_at_call 43; refine (ref09_Check _ d _ (hd.below (below_alloc2 _ _ _))).mono ?_; rw [he]; rintro e w1 ⟨rfl, hb1⟩; obtain ⟨hc1, hf1⟩ := bcell hb1))
  have hB2 : Below w.heap.size w w1 := below_step (below_alloc2 _ _ _) hb1
  have d2 : DiskRep w1 (.agg #[.slice sa d.stable.length sc, .slice ca d.cache.length cc]) d := hd.below hB2
  have k0 : w1.cell? ⟨w.heap.size, 0, none⟩ = some (.slice sa d.stable.length sc) := keep hb1 (by simp [go_sem])
  have k1 : w1.cell? ⟨w.heap.size, 1, none⟩ = some (.slice ca d.cache.length cc) := keep hb1 (by simp [go_sem])
  have k2 : w1.cell? ⟨w.heap.size + 1, 0, none⟩ = some (.int .i64 s) := keep hb1 (by simp [go_sem])
  have k3 : w1.cell? ⟨w.heap.size + 1, 1, none⟩ = some (.int .i64 c) := keep hb1 (by simp [go_sem])
  clear hc1 hf1 hb1
  have b1 : IntKind.i64.wrap ((s : Int) + c) = (s : Int) + c := IntWalk.i64_in _ (by omega)
  have b2 : (0 : Int) ≤ (s : Int) + c := by omega
  have b3 : ((s : Int) + c).toNat = s + c := by omega
  go_region_held3 (fun w' => w'.cell? ⟨w.heap.size, 0, none⟩ = some (.slice sa d.stable.length sc) ∧ w'.cell? ⟨w.heap.size, 1, none⟩ = some (.slice ca d.cache.length cc) ∧ w'.cell? ⟨w.heap.size + 1, 0, none⟩ = some (.int .i64 s) ∧ w'.cell? ⟨w.heap.size + 1, 1, none⟩ = some (.int .i64 c))
    (first | go_keep | exact ⟨keep hb3 k0, keep hb3 k1, keep hb3 k2, keep hb3 k3⟩)
    ((go_at_call 60; refine (ref09_Newest _ d _ (d2.below (below_drewN (Below.refl _ _) 1)) hk).mono ?_; rintro e w3 ⟨v3, rfl, ho3, hb3⟩; obtain ⟨a3, cap3, rfl, hs3, hl3, hm3, hn3⟩ := ho3.sl.ex; rw [HNL.out] at hl3; rw [HNL.out]; have i1 : (s : Int) + c ≤ cap3 := (by omega); have i2 : (s : Int) ≤ (s : Int) + c := (by omega)))
  have hB3 : Below w.heap.size w w3 := below_step hB2 (below_then (below_drewN (Below.refl _ _) 1) (Nat.le_refl _) hb3)
  go_wp2
  all_goals go_ret2
  all_goals have hl2 : ((d.newest.drop s).take c).length = c := by rw [List.length_take, List.length_drop, HNL.out]; omega
  · have hc0 : c = 0 := by omega
    subst hc0
    exact ⟨_, rfl, ⟨a3, 0, by simp, fun h => absurd (by simp) h, by simp, by omega, fun _ => rfl⟩, hB3⟩
  · refine ⟨_, rfl, ⟨_, cap3 - s, by rw [hl2]; rfl, SlAt.sub hs3 s c (by rw [HNL.out]; omega) (fun _ => rfl), by omega, by omega, ?_⟩, hB3⟩
    intro h
    cases a3 with
    | none => have := hn3 rfl; omega
    | some a => simp at h
end Go.Proofs.YtnddgpkljpjjbaaDoor
