/- The reference's find and Load. -/
import Derived.Test.YtnddgpkljpjjbaaDoorSup6
namespace Go.Proofs.YtnddgpkljpjjbaaDoor
open Go.RowKit
set_option linter.unusedVariables false
set_option linter.unusedSimpArgs false
theorem results_tmp5 {fn : Func} {t u v x y : Tmp} (h : fn.results = #[.tmp t, .tmp u, .tmp v, .tmp x, .tmp y]) (tmps : Array Value) (P : Program) (w : World) :
    (results fn tmps).run P w = .ok (.tuple #[tmps.getD t undef, tmps.getD u undef, tmps.getD v undef, tmps.getD x undef, tmps.getD y undef]) w := by
  simp [results, h]
def RetNone5 (w : World) (n : Int) (e : Ending) (w' : World) : Prop := e = .returned (.tuple #[.slice none 0 0, .int .i64 0, .slice none 0 0, .int .u32 0, .int .i64 n]) ∧ Below w.heap.size w w'
def RetFindR (w : World) (d : Disk) (p : Nat) (e : Ending) (w' : World) : Prop := ∃ l v, e = .returned (.tuple #[l, .int .i64 (supNew d p), v, .int .u32 (supGen d p), .int .i64 0]) ∧ SlRep w' l (supAll d p) ∧ SlRep w' v (supPay d p) ∧ Below w.heap.size w w'
set_option maxRecDepth 100000 in
set_option maxHeartbeats 4000000 in
theorem ref12_find_none (v : Value) (d : Disk) (p : Int) (w : World) (hd : DiskRep w v d) (hok : (d.ok && insideB d.stable.length p 16) = false) :
    Calls Tryd.prog 33 #[v, .int .i64 p] w (RetNone5 w 2) := by
  obtain ⟨_, _, rfl, h1, h2⟩ := hd.ex
  obtain ⟨sa, sc, rfl, hs, hs1, hs2, _⟩ := h1.ex
  obtain ⟨ca, cc, rfl, hc, hc1, hc2, _⟩ := h2.ex
  clear h1 h2
  by_cases hk : d.ok = true
  · have he := errNum_ok hk
    have hlen := (Disk.ok_get d hk).1
    have hin : insideB d.stable.length p 16 = false := by simpa [hk] using hok
    have hp : p < 0 ∨ (d.stable.length : Int) - 16 < p := by
      rw [insideB_ref] at hin; simp at hin; omega
    by_cases h0 : p < 0
    all_goals
      go_enter Tryd.func33, Tryd.ntmps33
      go_wp2_with fail
      refine (ref09_Check _ d _ (hd.below (below_alloc _ _))).mono ?_
      rw [he]
      rintro e w1 ⟨rfl, hb1⟩
      have k0 : w1.cell? ⟨w.heap.size, 0, none⟩ = some (.slice sa d.stable.length sc) := keep hb1 (by simp [go_sem])
      go_wp2
      refine bodyPost_ret (results_tmp5 rfl _ _ _) rfl ?_
      exact ⟨rfl, below_step (below_alloc _ _) hb1⟩
  · have he := errNum_bad (by simpa using hk : d.ok = false)
    go_enter Tryd.func33, Tryd.ntmps33
    go_wp2_with fail
    refine (ref09_Check _ d _ (hd.below (below_alloc _ _))).mono ?_
    rw [he]
    rintro e w1 ⟨rfl, hb1⟩
    go_wp2
    refine bodyPost_ret (results_tmp5 rfl _ _ _) rfl ?_
    exact ⟨rfl, below_step (below_alloc _ _) hb1⟩
set_option maxRecDepth 100000 in
set_option maxHeartbeats 8000000 in
theorem ref12_find (v : Value) (d : Disk) (p : Nat) (w : World) (hd : DiskRep w v d) (hk : d.ok = true) (hin : insideB d.stable.length p 16 = true) :
    Calls Tryd.prog 33 #[v, .int .i64 p] w (fun e w' => (supGen d p = 0 → RetNone5 w 9 e w') ∧ (supGen d p ≠ 0 → RetFindR w d p e w')) := by
  obtain ⟨_, _, rfl, h1, h2⟩ := hd.ex
  obtain ⟨sa, sc, rfl, hs, hs1, hs2, _⟩ := h1.ex
  obtain ⟨ca, cc, rfl, hc, hc1, hc2, _⟩ := h2.ex
  clear h1 h2
  have he := errNum_ok hk
  have hlen := (Disk.ok_get d hk).1
  have hp : p + 16 ≤ d.stable.length := by simp [insideB] at hin; omega
  have HL := Lib.hid (supAll_length d p hp)
  go_enter Tryd.func33, Tryd.ntmps33
  go_wp2_with fail
  refine (ref09_Check _ d _ (hd.below (below_alloc _ _))).mono ?_
  rw [he]
  rintro e w1 ⟨rfl, hb1⟩
  have k0 : w1.cell? ⟨w.heap.size, 0, none⟩ = some (.slice sa d.stable.length sc) := keep hb1 (by simp [go_sem])
  have k1 : w1.cell? ⟨w.heap.size, 1, none⟩ = some (.slice ca d.cache.length cc) := keep hb1 (by simp [go_sem])
  have hB1 : Below w.heap.size w w1 := below_step (below_alloc _ _) hb1
  clear hb1
  go_wp2_with fail
  refine (ref09_Read_ok _ d p 16 _ (hd.below hB1) hk hp).mono ?_
  rintro e w2 ⟨v2, rfl, hv2, hb2⟩
  have hB2 : Below w.heap.size w w2 := below_step hB1 hb2
  obtain ⟨a1, c1, rfl, hs1', hl1, hm1, hn1⟩ := hv2.ex
  rw [show ((d.newest.drop p).take 16).length = 16 from HL.out] at hl1 ⊢
  have hv16 : SlRep w2 (.slice a1 16 c1) (supAll d p) := by rw [show ((d.newest.drop p).take 16).length = 16 from HL.out] at hv2; exact hv2
  clear hv2 hb2 hB1 k0 k1
  have i5 : ¬ c1 = 8 := by omega
  have i6 : (8 : Int) ≤ c1 := by omega
  obtain ⟨ab, ao, rfl, _⟩ := hs1' (by intro e; have := congrArg List.length e; rw [show ((d.newest.drop p).take 16).length = 16 from HL.out] at this; cases this)
  have hA : SlRep w2 (.slice (some ⟨ab, ao, none⟩) 8 c1) (supA d p) := by
    have := hs1'.sub (a' := some ⟨ab, ao, none⟩) 0 8 (by have := HL.out; simp only [supAll] at this; omega) (fun _ => rfl)
    exact ⟨some ⟨ab, ao, none⟩, c1, by simp [supA, HL.out], by simpa [supA, supAll] using this, by simp [supA, HL.out]; omega, hm1, fun h => by cases h⟩
  have hB : SlRep w2 (.slice (some ⟨ab, ao + 64, none⟩) 8 (c1 - 8)) (supB d p) := by
    have := hs1'.sub (a' := some ⟨ab, ao + 64, none⟩) 8 8 (by have := HL.out; simp only [supAll] at this; omega) (fun _ => rfl)
    rw [List.take_of_length_le (by have := HL.out; simp only [supAll] at this; simp; omega)] at this
    exact ⟨some ⟨ab, ao + 64, none⟩, c1 - 8, by simp [supB, HL.out], by simpa [supB, supAll] using this, by simp [supB, HL.out]; omega, by omega, fun h => by cases h⟩
  have hlA : (supA d p).length = 8 := by rw [supA, List.length_take, HL.out]; rfl
  have hlB : (supB d p).length = 8 := by rw [supB, List.length_drop, HL.out]
  have HLA := Lib.hid hlA; have HLB := Lib.hid hlB
  clear hlA hlB hs1' hl1 hn1
  go_wp2_with fail
  refine (ref12_parse _ (supA d p) _ hA HLA.out).mono ?_
  rintro e w3 ⟨pa, rfl, hpa, hb3⟩
  go_wp2_with fail
  refine (ref12_parse _ (supB d p) _ (hB.below hb3) HLB.out).mono ?_
  rintro e w4 ⟨pb, rfl, hpb, hb4⟩
  have hB4 : Below w.heap.size w w4 := below_step (below_step hB2 hb3) hb4
  have hpa4 := hpa.below hb4
  have hl4 := (hv16.below hb3).below hb4
  clear hb3 hb4 hpa hv16 hA hB hB2
  by_cases h0 : supGen d p = 0
  · have hz0 : copyGen (supA d p) = 0 ∧ copyGen (supB d p) = 0 := by
      rw [supGen] at h0; split at h0 <;> omega
    have t1 : (((copyGen (supA d p) : Nat) : Int) == 0) = true := by rw [beq_iff_eq]; omega
    have t2 : (((copyGen (supB d p) : Nat) : Int) == 0) = true := by rw [beq_iff_eq]; omega
    have H0 := Lib.hid h0; clear hz0 h0
    go_wp2
    refine bodyPost_ret (results_tmp5 rfl _ _ _) rfl ?_
    exact ⟨fun _ => ⟨rfl, hB4⟩, fun h => absurd H0.out h⟩
  · by_cases hlt : copyGen (supA d p) < copyGen (supB d p)
    · have t1 : ((copyGen (supA d p) : Nat) : Int) < ((copyGen (supB d p) : Nat) : Int) := by omega
      have t2 : (((copyGen (supB d p) : Nat) : Int) == 0) = false := by rw [beq_eq_false_iff_ne]; omega
      have H0 := Lib.hid h0; clear h0
      have HN := Lib.hid (show supNew d p = 1 by rw [supNew, if_pos hlt])
      have HG := Lib.hid (show supGen d p = copyGen (supB d p) by rw [supGen, if_pos hlt])
      have HP := Lib.hid (show supPay d p = copyPay (supB d p) by rw [supPay, if_pos hlt])
      by_cases hA0 : copyGen (supA d p) = 0
      · have t3 : (((copyGen (supA d p) : Nat) : Int) == 0) = true := by rw [beq_iff_eq]; omega
        have HA := Lib.hid hA0; clear hA0
        go_wp2
        refine bodyPost_ret (results_tmp5 rfl _ _ _) rfl ?_
        exact ⟨fun h => absurd h H0.out, fun _ => ⟨_, _, by rw [HN.out, HG.out]; rfl, hl4, by rw [HP.out]; exact hpb, hB4⟩⟩
      · have t3 : (((copyGen (supA d p) : Nat) : Int) == 0) = false := by rw [beq_eq_false_iff_ne]; omega
        have HA := Lib.hid hA0; clear hA0
        go_wp2
        refine bodyPost_ret (results_tmp5 rfl _ _ _) rfl ?_
        exact ⟨fun h => absurd h H0.out, fun _ => ⟨_, _, by rw [HN.out, HG.out]; rfl, hl4, by rw [HP.out]; exact hpb, hB4⟩⟩
    · have t1 : ¬ ((copyGen (supA d p) : Nat) : Int) < ((copyGen (supB d p) : Nat) : Int) := by omega
      have t2 : (((copyGen (supA d p) : Nat) : Int) == 0) = false := by
        rw [beq_eq_false_iff_ne]; rw [supGen, if_neg hlt] at h0; omega
      have H0 := Lib.hid h0; clear h0
      have HN := Lib.hid (show supNew d p = 0 by rw [supNew, if_neg hlt])
      have HG := Lib.hid (show supGen d p = copyGen (supA d p) by rw [supGen, if_neg hlt])
      have HP := Lib.hid (show supPay d p = copyPay (supA d p) by rw [supPay, if_neg hlt])
      go_wp2
      refine bodyPost_ret (results_tmp5 rfl _ _ _) rfl ?_
      exact ⟨fun h => absurd h H0.out, fun _ => ⟨_, _, by rw [HN.out, HG.out]; rfl, hl4, by rw [HP.out]; exact hpa4, hB4⟩⟩
theorem gen_lt (s : Sec) : s.gen < 4294967296 := by
  have h0 := u8_lt s.b0; have h1 := u8_lt s.b1; have h2 := u8_lt s.b2; have h3 := u8_lt s.b3
  unfold Sec.gen; omega
theorem copyGen_lt (l : List Sec) : copyGen l < 4294967296 := by
  unfold copyGen; split
  · exact gen_lt _
  · omega
theorem supGen_lt (d : Disk) (p : Nat) : supGen d p < 4294967296 := by
  unfold supGen; split <;> exact copyGen_lt _
set_option maxRecDepth 100000 in
set_option maxHeartbeats 4000000 in
theorem ref12_Load_none (v : Value) (d : Disk) (p : Int) (w : World) (hd : DiskRep w v d) (hok : (d.ok && insideB d.stable.length p 16) = false) :
    Calls Tryd.prog 16 #[v, .int .i64 p] w (RetNone3 w 2) := by
  obtain ⟨s0, c0, rfl, h1, h2⟩ := hd.ex
  go_enter Tryd.func16, Tryd.ntmps16
  go_wp2_with fail
  refine (ref12_find_none _ d p _ (hd.below (below_alloc _ _)) hok).mono ?_
  rintro e w1 ⟨rfl, hb1⟩
  go_wp2
  go_ret3
  exact ⟨rfl, below_step (below_alloc _ _) hb1⟩
set_option maxRecDepth 100000 in
set_option maxHeartbeats 4000000 in
theorem ref12_Load (v : Value) (d : Disk) (p : Nat) (w : World) (hd : DiskRep w v d) (hk : d.ok = true) (hin : insideB d.stable.length p 16 = true) :
    Calls Tryd.prog 16 #[v, .int .i64 p] w (fun e w' => (supGen d p = 0 → RetNone3 w 9 e w') ∧ (supGen d p ≠ 0 → RetLoad w d p e w')) := by
  obtain ⟨s0, c0, rfl, h1, h2⟩ := hd.ex
  have hg := supGen_lt d p
  go_enter Tryd.func16, Tryd.ntmps16
  go_wp2_with fail
  refine (ref12_find _ d p _ (hd.below (below_alloc _ _)) hk hin).mono ?_
  rintro e w1 ⟨hz, hs⟩
  by_cases h0 : supGen d p = 0
  · obtain ⟨rfl, hb1⟩ := hz h0
    have H0 := Lib.hid h0; clear h0 hz hs
    go_wp2
    go_ret3
    exact ⟨fun _ => ⟨rfl, below_step (below_alloc _ _) hb1⟩, fun h => absurd H0.out h⟩
  · obtain ⟨l, v, rfl, hl, hv, hb1⟩ := hs h0
    have H0 := Lib.hid h0; clear h0 hz hs
    go_wp2
    go_ret3
    exact ⟨fun h => absurd h H0.out, fun _ => ⟨_, rfl, hv, below_step (below_alloc _ _) hb1⟩⟩
end Go.Proofs.YtnddgpkljpjjbaaDoor
