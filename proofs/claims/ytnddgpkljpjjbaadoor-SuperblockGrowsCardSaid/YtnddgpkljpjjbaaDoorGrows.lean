/- law12.SuperblockGrows: the walk of the law. -/
import Derived.Test.YtnddgpkljpjjbaaDoorLaws0
namespace Go.Proofs.YtnddgpkljpjjbaaDoor
open Go.RowKit
set_option linter.unusedVariables false
set_option linter.unusedSimpArgs false
def GroI (w : World) (b0 : Nat) (steps : List StepD) (N : Nat) (v i : Value) (wr : World) : Prop :=
  ∃ (k : Nat) (sa : Option Addr) (sn : Nat) (ca : Option Addr) (cn : Nat) (st : List Sec) (g : Nat), k ≤ steps.length ∧ i = .int .i64 k ∧ v = .int .i64 g ∧ SInv b0 wr sa sn ca cn st k N ∧ supGen ⟨st, []⟩ 5 = g ∧ Below w.heap.size w wr
set_option maxRecDepth 100000 in
set_option maxHeartbeats 4000000 in
theorem law_grows (u : Value) (content : List Sec) (v : Value) (steps : List StepD) (w : World) (hu : SlRep w u content) (hv : SlRep w v steps) (hso : ∀ s ∈ steps, StepOk s) :
    Calls Tryd.prog 7 #[u, v] w (RetB w (.bool true)) := by
  obtain ⟨ua, uc, rfl, _⟩ := hu.ex
  obtain ⟨va, vc, rfl, hvs, _⟩ := hv.ex
  by_cases hc : content.length ≤ 30
  · have t1 : ¬ (30 : Int) < content.length := by omega
    cases hs : smallB steps with
    | false =>
      have hsm := Lib.hid hs; clear hs
      go_enter Tryd.func7, Tryd.ntmps7
      go_wp2_with (first
        | (go_at_call 20; refine (law_small _ steps _ hv).mono ?_; rw [hsm.out]; rintro e w1 ⟨rfl, hb1⟩)
        | (go_at_call 10; refine (awake_ _).mono ?_; rintro e w4 ⟨rfl, hb4⟩)
        | fail)
      go_ret
      exact ⟨rfl, below_step hb1 hb4⟩
    | true =>
      have hsm := Lib.hid hs
      have hsb := hs
      simp only [smallB, Bool.and_eq_true, List.all_eq_true, decide_eq_true_eq] at hsb
      obtain ⟨hall, hlen⟩ := hsb
      have HALL := Lib.hid hall; clear hs hall
      obtain ⟨hg1, hp1, ht1⟩ := begun_gen content [] (by simp)
      have hl1 := begun_len content []
      have HG1 := Lib.hid hg1; have HP1 := Lib.hid hp1; have HT1 := Lib.hid ht1; have HL1 := Lib.hid hl1; clear hg1 hp1 ht1 hl1
      go_enter Tryd.func7, Tryd.ntmps7
      go_wp2_with (first
        | (go_at_call 20; refine (law_small _ steps _ hv).mono ?_; rw [hsm.out]; rintro e w1 ⟨rfl, hb1⟩)
        | fail)
      refine (law_begin _ _ content [] _ (hu.below hb1) (SlRep.nil _) hc (by simp)).mono ?_
      rintro e w2 ⟨sa, sn, ca, cn, rfl, ho2, hb2⟩
      generalize begun content [] = out0 at HG1 HP1 HT1 HL1 ho2 ⊢
      have hB2 : Below w.heap.size w w2 := below_step hb1 hb2
      have hI0 := SInv.start hc HL1.out HG1.out HT1.out ho2
      clear hb1 hb2 ho2
      go_wp2_with fail
      go_loopw [7, 8] (fun v i wr => GroI w w2.heap.size steps content.length v i wr) (fun _ i _ => steps.length - (intOf i).toNat)
      case atStart => exact ⟨0, sa, sn, ca, cn, out0, 1, Nat.zero_le _, rfl, rfl, hI0, HG1.out, below_step hB2 (below_alloc w2 _)⟩
      case round =>
        obtain ⟨k, da, dn, ea, en, st, g0, hk, rfl, rfl, hI, hP, hB⟩ := hrel
        by_cases hlt : k < steps.length
        · obtain ⟨x, hx⟩ : ∃ x, steps[k]? = some x := ⟨_, List.getElem?_eq_getElem hlt⟩
          have hox := hso x (List.mem_of_getElem? hx)
          have hfx := HALL.out x (List.mem_of_getElem? hx)
          have hpl : x.payload.length ≤ 31 := by simp only [stepFits, Bool.and_eq_true, decide_eq_true_eq] at hfx; exact hfx.1
          obtain ⟨b, o, pa, pc, xa, xc, e1, q0, q1, q2, hp, hcx⟩ := (hvs.below hB).step hx
          subst e1
          have hbox := hI.box
          have ec0 := cell_of_row wr _ 0 _ _ _ hbox
          have ec1 := cell_of_row wr _ 1 _ _ _ hbox
          have ef0 := frozen_of_row wr _ 0 _ _ hbox
          have ef1 := frozen_of_row wr _ 1 _ _ hbox
          simp at ec0 ec1
          have HI := Lib.hid hI; have HPV := Lib.hid hP; clear hI hP hx
          have hbb := HI.out.base (by omega) x.payload hpl
          have eA0 := keep (below_alloc wr (.cells #[.slice none 0 0, .slice none 0 0] 35)) ec0
          have eA1 := keep (below_alloc wr (.cells #[.slice none 0 0, .slice none 0 0] 35)) ec1
          have eA2 := keep (below_alloc wr (.cells #[.slice none 0 0, .slice none 0 0] 35)) q0
          have eA3 := keep (below_alloc wr (.cells #[.slice none 0 0, .slice none 0 0] 35)) q1
          have eA4 := keep (below_alloc wr (.cells #[.slice none 0 0, .slice none 0 0] 35)) q2
          have hbd := below_drew wr
          have hbz : Below wr.heap.size wr (wr.alloc (.cells #[.slice none 0 0, .slice none 0 0] 35)).drew := below_step (below_alloc wr _) (below_drew _)
          have HBOX := Lib.hid hbox; clear hbox
          have hzz : w2.heap.size < wr.heap.size := (Array.getElem?_eq_some_iff.1 HBOX.out).1
          go_wp2_with fail
          apply wp_joinS (AfterStep wr st x.payload)
          case h =>
            go_region_with (go_at_call 22; first
              | (refine (law_step _ _ st x wr.drew (HI.out.rep.below hbd) ⟨_, _, rfl, hp.below hbd, hcx.below hbd⟩ hbb hox hfx).mono ?_; rintro e w3 ⟨out, fa, fn, ga, gn, dd, rfl, ho, hm, hdn, hb3⟩; have HA := Lib.hid (afterA ho hm hdn hb3); clear ho hm hdn hb3)
              | (refine (law_step _ _ st x (wr.alloc (.cells #[.slice none 0 0, .slice none 0 0] 35)).drew (HI.out.rep.below hbz) ⟨_, _, rfl, hp.below hbz, hcx.below hbz⟩ hbb hox hfx).mono ?_; rintro e w3 ⟨out, fa, fn, ga, gn, dd, rfl, ho, hm, hdn, hb3⟩; have kz := keepB hb3 (show (wr.alloc (.cells #[.slice none 0 0, .slice none 0 0] 35)).drew.heap[wr.heap.size]? = _ from heap_alloc_new wr _); have HA := Lib.hid (afterB ho hm hdn hb3 kz); have zc0 := cell_of_row w3 _ 0 _ _ _ kz; have zc1 := cell_of_row w3 _ 1 _ _ _ kz; have zf0 := frozen_of_row w3 _ 0 _ _ kz; have zf1 := frozen_of_row w3 _ 1 _ _ kz; simp at zc0 zc1; clear ho hm hdn hb3))
            all_goals first
              | (obtain ⟨tb, htb⟩ : ∃ tb, tb = w3.heap.size := ⟨_, rfl⟩; rw [← htb] at HA ⊢; exact ⟨tb, out, fa, fn, ga, gn, dd, rfl, HA.out⟩)
              | (obtain ⟨tb, htb⟩ : ∃ tb, tb = wr.heap.size := ⟨_, rfl⟩; rw [← htb] at HA ⊢; exact ⟨tb, out, fa, fn, ga, gn, dd, rfl, HA.out⟩)
          case hq =>
            intro tb out fa fn ga gn dd W HF
            have hst := hbb.step HF.mix
            have hlo := hst.len
            have hlst := HI.out.len
            have hfit := HI.out.fit
            have hko : (⟨out, []⟩ : Disk).ok = true := by simp [Disk.ok]; omega
            have hino : insideB out.length ((5 : Nat) : Int) 16 = true := by simp [insideB]; omega
            have hrepo : DiskRep W (.agg #[.slice fa out.length fn, .slice ga 0 gn]) ⟨out, []⟩ := ⟨_, _, rfl, HF.own1.sl, HF.own2.sl⟩
            obtain ⟨G, hGd⟩ : ∃ G, G = supGen ⟨out, []⟩ 5 := ⟨_, rfl⟩
            have hlow := hst.low
            have hG1 : g0 ≤ G := by
              rw [HPV.out] at hlow
              rcases hst.one with ⟨_, e⟩ | ⟨_, e⟩
              · rw [hGd, e, HPV.out]; exact Nat.le_refl _
              · rw [hGd, e]; omega
            have hG2 : dd = true → g0 < G := fun hd => by
              rw [HPV.out] at hlow
              rw [hGd, HF.done hd, hbb.done.2]; omega
            have hld : ∀ w', Below W.heap.size W w' → Calls Tryd.prog 15 #[.agg #[.slice fa out.length fn, .slice ga 0 gn], .int .i64 5] w' (fun e w4 => ∃ a n m, e = .returned (.tuple #[.slice a m n, .int .i64 G, .int .i64 0]) ∧ Below w'.heap.size w' w4) := fun w' hw' => by
              refine (sup_Load_some _ ⟨out, []⟩ 5 _ (hrepo.below hw') hko hino hst.ne).mono ?_
              rintro e w4 ⟨v4, rfl, hv4, hb4⟩
              rw [← hGd]
              obtain ⟨a, n, rfl, _⟩ := hv4.ex
              exact ⟨a, n, _, rfl, hb4⟩
            have HKT := Lib.hid HF.box; have HKB := Lib.hid (keepB HF.bel HBOX.out); have HHF := Lib.hid HF; have HGD := Lib.hid hGd
            have kt := HF.box
            have tc0 := cell_of_row W _ 0 _ _ _ kt
            have tc1 := cell_of_row W _ 1 _ _ _ kt
            have tf0 := frozen_of_row W _ 0 _ _ kt
            have tf1 := frozen_of_row W _ 1 _ _ kt
            simp at tc0 tc1
            clear kt hst HF hGd eA0 eA1 eA2 eA3 eA4 q0 q1 q2 ec0 ec1 ef0 ef1 hrepo hp hcx hbd hbz hlow hlo hlst hfit hko hino hv hvs hu hox hfx
            go_wp2_with fail
            refine (hld _ (Below.refl _ _)).mono ?_
            rintro e w4 ⟨a4, n4, m4, rfl, hb4⟩
            have kt := keepB hb4 HKT.out
            have kb := keepB hb4 HKB.out
            have tc0 := cell_of_row w4 _ 0 _ _ _ kt
            have tc1 := cell_of_row w4 _ 1 _ _ _ kt
            have tf0 := frozen_of_row w4 _ 0 _ _ kt
            have tf1 := frozen_of_row w4 _ 1 _ _ kt
            simp at tc0 tc1
            have ec0 := cell_of_row w4 _ 0 _ _ _ kb
            have ec1 := cell_of_row w4 _ 1 _ _ _ kb
            have ef0 := frozen_of_row w4 _ 0 _ _ kb
            have ef1 := frozen_of_row w4 _ 1 _ _ kb
            simp at ec0 ec1
            have HKB4 := Lib.hid kb
            clear kt kb hld
            have hB4 : Below w.heap.size w w4 := below_step (below_step hB HHF.out.bel) hb4
            have g1 : ¬ (G : Int) < g0 := by omega
            have hne : tb ≠ w2.heap.size := by have := HHF.out.le; omega
            have hfin : GroI w w2.heap.size steps content.length (.int .i64 G) (.int .i64 ((k : Int) + 1)) ((w4.setCell ⟨w2.heap.size, 0, none⟩ (.slice fa out.length fn)).setCell ⟨w2.heap.size, 1, none⟩ (.slice ga 0 gn)) :=
              ⟨k + 1, fa, fn, ga, gn, out, G, by omega, by go_num, rfl, HI.out.next (by omega) hpl HHF.out hb4, HGD.out.symm, (hB4.setCell (p := ⟨w2.heap.size, 0, none⟩) (by have := hB2.size; exact this) _).setCell (p := ⟨w2.heap.size, 1, none⟩) (by have := hB2.size; exact this) _⟩
            have HFIN := Lib.hid hfin; clear hfin
            cases dd
            · go_wp2
              go_roundw
              case rel => exact HFIN.out
              case measure => simp [intOf]; omega
            · have g2 : ((G : Int) == g0) = false := by rw [beq_eq_false_iff_ne]; have := hG2 rfl; omega
              go_wp2
              go_roundw
              case rel => exact HFIN.out
              case measure => simp [intOf]; omega
        · obtain rfl : k = steps.length := by omega
          go_wp2_with (first
            | (go_at_call 10; refine (awake_ _).mono ?_; rintro e w4 ⟨rfl, hb4⟩)
            | fail)
          go_ret
          exact ⟨rfl, below_step hB hb4⟩
  · have t1 : (30 : Int) < content.length := by omega
    go_enter Tryd.func7, Tryd.ntmps7
    go_wp2_with (first
      | (go_at_call 10; refine (awake_ _).mono ?_; rintro e w4 ⟨rfl, hb4⟩)
      | fail)
    go_ret
    exact ⟨rfl, hb4⟩
end Go.Proofs.YtnddgpkljpjjbaaDoor
