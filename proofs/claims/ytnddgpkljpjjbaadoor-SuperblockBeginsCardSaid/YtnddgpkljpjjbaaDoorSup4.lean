/- superblock.get. -/
import Derived.Test.YtnddgpkljpjjbaaDoorSup3
import Derived.WalkMore
import Derived.Deep.LoopGhost
namespace Go.Proofs.YtnddgpkljpjjbaaDoor
open Go.RowKit
set_option linter.unusedVariables false
set_option linter.unusedSimpArgs false
/-- a copy as a value: the generation, the payload, the sectors -/
def RetCopy (w : World) (l : List Sec) (e : Ending) (w' : World) : Prop := ∃ p s, e = .returned (.agg #[.int .i64 (copyGen l), p, s]) ∧ SlRep w' p (copyPay l) ∧ SlRep w' s l ∧ Below w.heap.size w w'
theorem ret_copy_bad {l : List Sec} {w w' : World} {s : Value} (hbad : copyOk l = false) (hs : SlRep w' s l) (hb : Below w.heap.size w w') : RetCopy w l (.returned (.agg #[.int .i64 0, .slice none 0 0, s])) w' :=
  ⟨.slice none 0 0, s, by rw [copyGen, hbad]; rfl, by rw [copyPay, hbad]; exact SlRep.nil _, hs, hb⟩
theorem trimmed_bad {l : List Sec} {m n : Nat} (hn : lenB l = n) (ht : Trimmed ((datas l).drop (n + 1)) m) (hm : 0 < m) : copyOk l = false := by
  obtain ⟨h1, h2, h3⟩ := ht
  obtain ⟨x, hx⟩ : ∃ x, ((datas l).drop (n + 1))[m - 1]? = some x := ⟨_, List.getElem?_eq_getElem (by omega)⟩
  refine copyOk_rest l (n + 1 + (m - 1)) x (by rw [List.getElem?_drop] at hx; exact hx) (by omega) (h3 x hm hx)
theorem trimmed_ok {l : List Sec} {n : Nat} (hn : lenB l = n) (ht : Trimmed ((datas l).drop (n + 1)) 0) (h31 : n ≤ 31) (hg : ∀ (j : Nat) s, l[j]? = some s → s.gen = gen0 l) : copyOk l = true :=
  copyOk_yes l hg (by omega) (fun j x hj hx => ht.2.1 (j - (n + 1)) x (Nat.zero_le _) (by rw [List.getElem?_drop, show n + 1 + (j - (n + 1)) = j from by omega]; exact hx))
theorem below_set3 {B : Nat} {w0 w : World} (h : Below B w0 w) (g : Nat) (hg : B ≤ g) (a b c : Value) : Below B w0 (((w.setCell ⟨g, 0, none⟩ a).setCell ⟨g, 1, none⟩ b).setCell ⟨g, 2, none⟩ c) :=
  ((h.setCell (p := ⟨g, 0, none⟩) hg _).setCell (p := ⟨g, 1, none⟩) hg _).setCell (p := ⟨g, 2, none⟩) hg _
set_option maxRecDepth 100000 in
set_option maxHeartbeats 4000000 in
theorem sup_get (v : Value) (l : List Sec) (w : World) (hv : SlRep w v l) (h8 : l.length = 8) :
    Calls Tryd.prog 42 #[v] w (RetCopy w l) := by
  obtain ⟨a, c, rfl, hs, hc1, hc2, _⟩ := hv.ex
  obtain ⟨s0, hs0⟩ : ∃ s, l[0]? = some s := ⟨_, List.getElem?_eq_getElem (by omega)⟩
  have hg0 : gen0 l = s0.gen := by simp [gen0, List.getD_eq_getElem?_getD, hs0]
  obtain ⟨b, o, rfl, q0⟩ := hs.sec hs0
  simp only [Nat.zero_mul, Nat.add_zero] at q0
  have hv8 : SlRep w (.slice (some ⟨b, o, none⟩) 8 c) l := by rw [h8] at hv; exact hv
  rw [h8]
  have H8 := Lib.hid h8; have HG := Lib.hid hg0; have HS := Lib.hid hs0; have HQ := Lib.hid q0; clear h8 hg0 hs0 q0
  go_enter Tryd.func42, Tryd.ntmps42
  go_wp2
  go_step3
  go_wp2
  go_step3
  go_wp2
  refine wp_loop_once ?_
  go_wp2
  go_loopw [4, 12] (fun dv i wr => ∃ k : Nat, k ≤ 8 ∧ i = .int .i64 k ∧ Own (w.heap.size + 2) 5 wr dv (datas (l.take k)) ∧ (∀ j s, j < k → l[j]? = some s → s.gen = s0.gen) ∧
      wr.heap[w.heap.size]? = some (.cells #[.int .i64 0, .slice none 0 0, .slice none 0 0] 71 (0, 0)) ∧
      wr.heap[w.heap.size + 1]? = some (.cells #[.int .i64 0, .slice none 0 0, .slice (some ⟨b, o, none⟩) 8 c] 71 (0, 0)) ∧ Below w.heap.size w wr)
    (fun _ i _ => 8 - (intOf i).toNat)
  case atStart => exact ⟨0, by omega, rfl, Own.nil _ _ _, by simp, heap_alloc2_old _ _ _, heap_alloc2_new _ _ _, below_alloc2 _ _ _⟩
  case round =>
    obtain ⟨k, hk, rfl, ho, hall, hk0, hk1, hB⟩ := hrel
    have hz : w.heap.size + 1 < wr.heap.size := (Array.getElem?_eq_some_iff.1 hk1).1
    by_cases hlt : k < 8
    · obtain ⟨s, hs'⟩ : ∃ s, l[k]? = some s := ⟨_, List.getElem?_eq_getElem (by rw [H8.out]; exact hlt)⟩
      have HK := Lib.hid hs'
      obtain ⟨b', o', he, hsec⟩ := (hs.below hB).sec hs'
      injection he with he
      injection he with e1 e2 _
      subst e1; subst e2
      obtain ⟨q0, q1, q2, q3, q4, q5, q6, q7⟩ := hsec
      have hdl := datas_length (l.take k)
      have hdl2 : (datas (l.take k)).length ≤ 32 := by rw [hdl]; have := List.length_take_le k l; omega
      have HK0 := Lib.hid hk0; have HK1 := Lib.hid hk1; have HALL := Lib.hid hall
      clear hdl hs' hk0 hk1 hall
      go_wp2
      have hsA := box_sec wr s 57
      have hsB : SecAt (wr.alloc (.cells #[.int .u8 s.b0.toNat, .int .u8 s.b1.toNat, .int .u8 s.b2.toNat, .int .u8 s.b3.toNat, .int .u8 s.b4.toNat, .int .u8 s.b5.toNat, .int .u8 s.b6.toNat, .int .u8 s.b7.toNat] 57)) b o s0 := (HQ.out.below hB).below (below_alloc _ _)
      refine wp_region_later (by kernel_rfl) (by kernel_rfl) ?_
      refine later_value rfl (fun w' hw' => by obtain ⟨r0, r1, r2, r3, r4, r5, r6, r7⟩ := (hsA).below hw'; go_simp; exact rfl) (by go_simp; exact rfl) ?_
      refine later_call rfl (fun w' hw' => by go_simp; exact rfl) (fun w' hw' => sup_generation s w') (by go_simp; exact rfl) ?_
      refine later_value rfl (fun w' hw' => by go_simp; exact rfl) (by go_simp; exact rfl) ?_
      refine later_value rfl (fun w' hw' => by go_simp; exact rfl) (by go_simp; exact rfl) ?_
      refine later_value rfl (fun w' hw' => by obtain ⟨r0, r1, r2, r3, r4, r5, r6, r7⟩ := (hsB).below hw'; go_simp; exact rfl) (by go_simp; exact rfl) ?_
      refine later_call rfl (fun w' hw' => by go_simp; exact rfl) (fun w' hw' => sup_generation s0 w') (by go_simp; exact rfl) ?_
      refine later_value rfl (fun w' hw' => by go_simp; exact rfl) (by go_simp; exact rfl) ?_
      refine wpQuiet_nil ?_
      intro w2 hw2
      have hB2 : Below w.heap.size w w2 := below_step (hB.alloc hB.size _) hw2
      have hk0 := keepB hw2 (keepB (below_alloc wr _) HK0.out)
      have hk1 := keepB hw2 (keepB (below_alloc wr _) HK1.out)
      by_cases hgs : s.gen = s0.gen
      · have hne : ((s.gen : Int) != (s0.gen : Int)) = false := by simp; omega
        have hdat : SlRep w2 (.slice (some ⟨wr.heap.size, 4, none⟩) 4 4) s.dat := by simpa using dat_sl (hsA.below hw2)
        have ho2 := (ho.below (below_alloc wr _)).below hw2
        clear q0 q1 q2 q3 q4 q5 q6 q7 hsA hsB
        go_wp2_with (at_builtin; go_must (refine wpList_append_Own (α := UInt8) rfl (.tmp 23) (.tmp 24) 22 5 rfl 1 elByte (w.heap.size + 2) _ _ _ s.dat rfl ho2 rfl hdat (by simp [Sec.dat]; omega) (by simp [Sec.dat]; omega) (by have := hw2.size; simp at this; omega) ?_); intro v3 w3 ho3 hg3 hn3)
        have hB3 : Below w.heap.size w w3 := hB2.grown hg3 hB2.size (fun k hk => by have := ho2.base k hk; omega)
        have hk0' := keepG hg3 hk0 (fun e => ho2.sound _ (by omega) e.symm)
        have hk1' := keepG hg3 hk1 (fun e => ho2.sound _ (by omega) e.symm)
        go_roundw
        case rel => exact ⟨k + 1, by omega, by go_num, by rw [take_snoc l k s HK.out, datas_append]; simpa [datas] using ho3, fun j t hj ht => by
              rcases Nat.lt_or_ge j k with h | h
              · exact HALL.out j t h ht
              · obtain rfl : j = k := by omega
                rw [HK.out] at ht; injection ht with ht; subst ht; exact hgs, hk0', hk1', hB3⟩
        case measure => simp [intOf]; omega
      · have hne : ((s.gen : Int) != (s0.gen : Int)) = true := by simp; omega
        have e0 := cell_of_row w2 _ 0 _ _ _ hk1
        have e1 := cell_of_row w2 _ 1 _ _ _ hk1
        have e2 := cell_of_row w2 _ 2 _ _ _ hk1
        have f0 := cell_of_row w2 _ 0 _ _ _ hk0
        have f1 := cell_of_row w2 _ 1 _ _ _ hk0
        have f2 := cell_of_row w2 _ 2 _ _ _ hk0
        have z0 := frozen_of_row w2 _ 0 _ _ hk0
        have z1 := frozen_of_row w2 _ 1 _ _ hk0
        have z2 := frozen_of_row w2 _ 2 _ _ hk0
        simp at e0 e1 e2 f0 f1 f2
        clear q0 q1 q2 q3 q4 q5 q6 q7 hsA hsB
        go_wp2
        try rw [Exit.noGoto_ret]
        refine bodyPost_ret (v := .agg #[.int .i64 0, .slice none 0 0, .slice (some ⟨b, o, none⟩) 8 c]) (by simp [results, Tryd.results42, go_sem, f0, f1, f2]) rfl ?_
        have hB3 := below_set3 hB2 w.heap.size (Nat.le_refl _) (.int .i64 0) (.slice none 0 0) (.slice (some ⟨b, o, none⟩) 8 c)
        exact ret_copy_bad (copy_gens_bad l k s HK.out (by rw [HG.out]; exact hgs)) (hv8.below hB3) hB3
    · obtain rfl : k = 8 := by omega
      have hD : datas (l.take 8) = datas l := by rw [List.take_of_length_le (by rw [H8.out]; omega)]
      have hDl : (datas l).length = 32 := by rw [datas_length, H8.out]
      rw [hD] at ho
      obtain ⟨g, cap, rfl, hg1, hg2, hg3, hg4⟩ := ho.shape (by rw [hDl]; omega)
      rw [hDl] at hg3 ho ⊢
      have hsl := ho.slat
      obtain ⟨x0, hx0⟩ : ∃ x, (datas l)[0]? = some x := ⟨_, List.getElem?_eq_getElem (by omega)⟩
      have hn : lenB l = x0.toNat := by simp [lenB, List.getD_eq_getElem?_getD, hx0]
      have c0 := hsl.u8' hx0
      simp only [Nat.add_zero] at c0
      have hlt := u8_lt x0
      generalize x0.toNat = n at *
      have HN := Lib.hid hn; have HD := Lib.hid hDl; have HK0 := Lib.hid hk0; have HK1 := Lib.hid hk1
      clear hn hDl hD hk0 hk1 hx0
      have e0 := cell_of_row wr _ 0 _ _ _ HK1.out
      have e1 := cell_of_row wr _ 1 _ _ _ HK1.out
      have e2 := cell_of_row wr _ 2 _ _ _ HK1.out
      have f0 := cell_of_row wr _ 0 _ _ _ HK0.out
      have f1 := cell_of_row wr _ 1 _ _ _ HK0.out
      have f2 := cell_of_row wr _ 2 _ _ _ HK0.out
      have z0 := frozen_of_row wr _ 0 _ _ HK0.out
      have z1 := frozen_of_row wr _ 1 _ _ HK0.out
      have z2 := frozen_of_row wr _ 2 _ _ HK0.out
      have y0 := frozen_of_row wr _ 0 _ _ HK1.out
      have y1 := frozen_of_row wr _ 1 _ _ HK1.out
      simp at e0 e1 e2 f0 f1 f2
      have HB3 := Lib.hid (below_set3 hB w.heap.size (Nat.le_refl _) (.int .i64 0) (.slice none 0 0) (.slice (some ⟨b, o, none⟩) 8 c))
      by_cases h31 : n ≤ 31
      · have hsub : SlRep wr (.slice (some ⟨g, n + 1, none⟩) (31 - n) (cap - (n + 1))) ((datas l).drop (n + 1)) := by
          have := hsl.sub (a' := some ⟨g, n + 1, none⟩) (n + 1) (31 - n) (by rw [HD.out]; omega) (fun h => by simp [Rep.size, Addr.add_lit])
          rw [List.take_of_length_le (by rw [List.length_drop, HD.out]; omega)] at this
          exact ⟨_, cap - (n + 1), by rw [List.length_drop, HD.out]; congr 1; omega, this, by rw [List.length_drop, HD.out]; omega, by omega, fun h => by cases h⟩
        have hsub0 : cap = n + 1 → SlRep wr (.slice (some ⟨g, 0, none⟩) (31 - n) 0) ((datas l).drop (n + 1)) := by
          intro hc
          have : (datas l).drop (n + 1) = [] := by apply List.drop_eq_nil_of_le; rw [HD.out]; omega
          rw [this]
          exact ⟨_, 0, by rw [show 31 - n = 0 from by omega]; rfl, fun h => absurd rfl h, by simp, by simp, fun _ => rfl⟩
        have HS1 := Lib.hid hsub; have HS0 := Lib.hid hsub0; clear hsub hsub0
        go_wp2_with (go_at_call 59; refine (trimRight_zero _ ((datas l).drop (n + 1)) _ (by first | exact HS1.out | exact HS0.out (by omega) | exact HS0.out rfl)).mono ?_; rintro e w2 ⟨a2, m, c2, rfl, ht, rfl⟩; have HT := Lib.hid ht; clear ht)
        all_goals try rw [Exit.noGoto_ret]
        all_goals first
          | (have hm : 31 < (n : Int) ∨ 0 < m := by assumption
             refine bodyPost_ret (v := .agg #[.int .i64 0, .slice none 0 0, .slice (some ⟨b, o, none⟩) 8 c]) (by simp [results, Tryd.results42, go_sem, f0, f1, f2]) rfl ?_
             exact ret_copy_bad (trimmed_bad HN.out HT.out (by omega)) (hv8.below HB3.out) HB3.out)
          | skip
        go_ways
        all_goals
          obtain ⟨q0, q1, q2, q3, q4, q5, q6, q7⟩ := HQ.out.below hB
          have hbz : b < wr.heap.size := World.block_lt_of_cell? wr _ q0
          have hbw : b < w.heap.size := World.block_lt_of_cell? w _ HQ.out.1
          have hbn : b ≠ w.heap.size + 1 := by omega
          have hz0 : w.heap.size < wr.heap.size := by omega
          have i0 : IntKind.i64.wrap ((n : Int) + 1) = (n : Int) + 1 := IntWalk.i64_in _ (by omega)
          have i1 : (0 : Int) ≤ (n : Int) + 1 := by omega
          have i2 : ((n : Int) + 1).toNat = n + 1 := by omega
          have i3 : (1 : Int) ≤ (n : Int) + 1 := by omega
          have i4 : (n : Int) + 1 ≤ (cap : Int) := by omega
          have i5 : ¬ cap = 1 := by omega
          go_region_held3 (fun w' => w'.cell? ⟨b, o, none⟩ = some (.int .u8 s0.b0.toNat) ∧ w'.cell? ⟨b, o + 1, none⟩ = some (.int .u8 s0.b1.toNat) ∧ w'.cell? ⟨b, o + 2, none⟩ = some (.int .u8 s0.b2.toNat) ∧ w'.cell? ⟨b, o + 3, none⟩ = some (.int .u8 s0.b3.toNat) ∧ w'.cell? ⟨b, o + 4, none⟩ = some (.int .u8 s0.b4.toNat) ∧ w'.cell? ⟨b, o + 5, none⟩ = some (.int .u8 s0.b5.toNat) ∧ w'.cell? ⟨b, o + 6, none⟩ = some (.int .u8 s0.b6.toNat) ∧ w'.cell? ⟨b, o + 7, none⟩ = some (.int .u8 s0.b7.toNat))
            (first | go_keep | exact ⟨keep hb3 q0, keep hb3 q1, keep hb3 q2, keep hb3 q3, keep hb3 q4, keep hb3 q5, keep hb3 q6, keep hb3 q7⟩ | exact ⟨(cell_other hbn).trans (keep hb3 q0), (cell_other hbn).trans (keep hb3 q1), (cell_other hbn).trans (keep hb3 q2), (cell_other hbn).trans (keep hb3 q3), (cell_other hbn).trans (keep hb3 q4), (cell_other hbn).trans (keep hb3 q5), (cell_other hbn).trans (keep hb3 q6), (cell_other hbn).trans (keep hb3 q7)⟩ | exact ⟨(cell_other hbn).trans ((cell_other hbn).trans (keep hb3 q0)), (cell_other hbn).trans ((cell_other hbn).trans (keep hb3 q1)), (cell_other hbn).trans ((cell_other hbn).trans (keep hb3 q2)), (cell_other hbn).trans ((cell_other hbn).trans (keep hb3 q3)), (cell_other hbn).trans ((cell_other hbn).trans (keep hb3 q4)), (cell_other hbn).trans ((cell_other hbn).trans (keep hb3 q5)), (cell_other hbn).trans ((cell_other hbn).trans (keep hb3 q6)), (cell_other hbn).trans ((cell_other hbn).trans (keep hb3 q7))⟩)
            ((go_at_call 34; refine (sup_generation s0 _).mono ?_; rintro e w3 ⟨rfl, hb3⟩; have k0 : w3.cell? ⟨w.heap.size + 1, 0, none⟩ = some (.int .i64 0) := keep hb3 e0; have k1 : w3.cell? ⟨w.heap.size + 1, 1, none⟩ = some (.slice none 0 0) := keep hb3 e1; have k2 : w3.cell? ⟨w.heap.size + 1, 2, none⟩ = some (.slice (some ⟨b, o, none⟩) 8 c) := keep hb3 e2; have k3 : w3.frozen? ⟨w.heap.size + 1, 0, none⟩ = false := (hb3.frozen (by exact hz)).trans y0; have k4 : w3.frozen? ⟨w.heap.size + 1, 1, none⟩ = false := (hb3.frozen (by exact hz)).trans y1; have m0 : w3.cell? ⟨w.heap.size, 0, none⟩ = some (.int .i64 0) := keep hb3 f0; have m1 : w3.cell? ⟨w.heap.size, 1, none⟩ = some (.slice none 0 0) := keep hb3 f1; have m2 : w3.cell? ⟨w.heap.size, 2, none⟩ = some (.slice none 0 0) := keep hb3 f2; have m3 : w3.frozen? ⟨w.heap.size, 0, none⟩ = false := (hb3.frozen (by exact hz0)).trans z0; have m4 : w3.frozen? ⟨w.heap.size, 1, none⟩ = false := (hb3.frozen (by exact hz0)).trans z1; have m5 : w3.frozen? ⟨w.heap.size, 2, none⟩ = false := (hb3.frozen (by exact hz0)).trans z2))
          have hB3 : Below w.heap.size w w3 := below_step hB (below_then (below_drew _) (Nat.le_refl _) hb3)
          go_wp2
          try rw [Exit.noGoto_ret]
          have hm : (n : Int) ≤ 31 ∧ ¬ 0 < m := by assumption
          have hok : copyOk l = true := trimmed_ok HN.out (by have := HT.out; rwa [show m = 0 from by omega] at this) h31 (fun j s hs => by rw [HG.out]; exact hall j s (by have := (List.getElem?_eq_some_iff.1 hs).1; rw [H8.out] at this; exact this) hs)
          first
            | skip
              (refine bodyPost_ret (v := .agg #[.int .i64 s0.gen, .slice (some ⟨g, 1, none⟩) n (cap - 1), .slice (some ⟨b, o, none⟩) 8 c]) (by simp [results, Tryd.results42, go_sem, m0, m1, m2]) rfl ?_
               have hB4 : Below w.heap.size w ((w3.setCell ⟨w.heap.size + 1, 0, none⟩ (.int .i64 s0.gen)).setCell ⟨w.heap.size + 1, 1, none⟩ (.slice (some ⟨g, 1, none⟩) n (cap - 1))) := (hB3.setCell (p := ⟨w.heap.size + 1, 0, none⟩) (by simp) _).setCell (p := ⟨w.heap.size + 1, 1, none⟩) (by simp) _
               have hB5 := below_set3 hB4 w.heap.size (Nat.le_refl _) (.int .i64 s0.gen) (.slice (some ⟨g, 1, none⟩) n (cap - 1)) (.slice (some ⟨b, o, none⟩) 8 c)
               refine ⟨_, _, by rw [copyGen, if_pos hok, HG.out], ?_, hv8.below hB5, hB5⟩
               rw [copyPay, if_pos hok, HN.out]
               have hpl : (((datas l).drop 1).take n).length = n := by rw [List.length_take, List.length_drop, HD.out]; omega
               have hs5 := hsl.of_block ((block_set (by omega)).trans ((block_set (by omega)).trans ((block_set (by omega)).trans ((block_set (by omega)).trans ((block_set (by omega)).trans (hb3.block g (by exact hg2)))))) : (((((w3.setCell ⟨w.heap.size + 1, 0, none⟩ (.int .i64 s0.gen)).setCell ⟨w.heap.size + 1, 1, none⟩ (.slice (some ⟨g, 1, none⟩) n (cap - 1))).setCell ⟨w.heap.size, 0, none⟩ (.int .i64 s0.gen)).setCell ⟨w.heap.size, 1, none⟩ (.slice (some ⟨g, 1, none⟩) n (cap - 1))).setCell ⟨w.heap.size, 2, none⟩ (.slice (some ⟨b, o, none⟩) 8 c)).heap[g]? = wr.heap[g]?)
               exact ⟨some ⟨g, 1, none⟩, (cap - 1), by rw [hpl], hs5.sub 1 n (by rw [HD.out]; omega) (fun _ => rfl), by omega, by omega, fun h => by cases h⟩)
            | skip
              (refine bodyPost_ret (v := .agg #[.int .i64 s0.gen, .slice (some ⟨g, 1, none⟩) n n, .slice (some ⟨b, o, none⟩) 8 c]) (by simp [results, Tryd.results42, go_sem, m0, m1, m2]) rfl ?_
               have hB4 : Below w.heap.size w ((w3.setCell ⟨w.heap.size + 1, 0, none⟩ (.int .i64 s0.gen)).setCell ⟨w.heap.size + 1, 1, none⟩ (.slice (some ⟨g, 1, none⟩) n n)) := (hB3.setCell (p := ⟨w.heap.size + 1, 0, none⟩) (by simp) _).setCell (p := ⟨w.heap.size + 1, 1, none⟩) (by simp) _
               have hB5 := below_set3 hB4 w.heap.size (Nat.le_refl _) (.int .i64 s0.gen) (.slice (some ⟨g, 1, none⟩) n n) (.slice (some ⟨b, o, none⟩) 8 c)
               refine ⟨_, _, by rw [copyGen, if_pos hok, HG.out], ?_, hv8.below hB5, hB5⟩
               rw [copyPay, if_pos hok, HN.out]
               have hpl : (((datas l).drop 1).take n).length = n := by rw [List.length_take, List.length_drop, HD.out]; omega
               have hs5 := hsl.of_block ((block_set (by omega)).trans ((block_set (by omega)).trans ((block_set (by omega)).trans ((block_set (by omega)).trans ((block_set (by omega)).trans (hb3.block g (by exact hg2)))))) : (((((w3.setCell ⟨w.heap.size + 1, 0, none⟩ (.int .i64 s0.gen)).setCell ⟨w.heap.size + 1, 1, none⟩ (.slice (some ⟨g, 1, none⟩) n n)).setCell ⟨w.heap.size, 0, none⟩ (.int .i64 s0.gen)).setCell ⟨w.heap.size, 1, none⟩ (.slice (some ⟨g, 1, none⟩) n n)).setCell ⟨w.heap.size, 2, none⟩ (.slice (some ⟨b, o, none⟩) 8 c)).heap[g]? = wr.heap[g]?)
               exact ⟨some ⟨g, 1, none⟩, n, by rw [hpl], hs5.sub 1 n (by rw [HD.out]; omega) (fun _ => rfl), by omega, by omega, fun h => by cases h⟩)
      · have hbad := copyOk_long l (by rw [HN.out]; exact h31)
        go_wp2
        try rw [Exit.noGoto_ret]
        refine bodyPost_ret (v := .agg #[.int .i64 0, .slice none 0 0, .slice (some ⟨b, o, none⟩) 8 c]) (by simp [results, Tryd.results42, go_sem, f0, f1, f2]) rfl ?_
        exact ret_copy_bad hbad (hv8.below HB3.out) HB3.out
end Go.Proofs.YtnddgpkljpjjbaaDoor
