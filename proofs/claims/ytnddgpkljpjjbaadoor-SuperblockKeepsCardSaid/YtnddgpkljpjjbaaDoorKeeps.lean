/- law12.SuperblockKeeps: the walk of the law. -/
import Derived.Test.YtnddgpkljpjjbaaDoorLaws0
namespace Go.Proofs.YtnddgpkljpjjbaaDoor
open Go.RowKit
set_option linter.unusedVariables false
set_option linter.unusedSimpArgs false
def Outside (content st : List Sec) : Prop := ∀ i, i < 5 ∨ 21 ≤ i → st[i]? = (bare content)[i]?
def KeeI (w : World) (b0 : Nat) (steps : List StepD) (content : List Sec) (v i : Value) (wr : World) : Prop :=
  ∃ (k : Nat) (sa : Option Addr) (sn : Nat) (ca : Option Addr) (cn : Nat) (st : List Sec), k ≤ steps.length ∧ i = .int .i64 k ∧ v = .bool true ∧ SInv b0 wr sa sn ca cn st k content.length ∧ Outside content st ∧ Below w.heap.size w wr
set_option maxRecDepth 100000 in
set_option maxHeartbeats 4000000 in
theorem law_keeps (u : Value) (content : List Sec) (v : Value) (steps : List StepD) (w : World) (hu : SlRep w u content) (hv : SlRep w v steps) (hso : ∀ s ∈ steps, StepOk s) :
    Calls Tryd.prog 8 #[u, v] w (RetB w (.bool true)) := by
  obtain ⟨ua, uc, rfl, _⟩ := hu.ex
  obtain ⟨va, vc, rfl, hvs, _⟩ := hv.ex
  by_cases hc : content.length ≤ 30
  · have t1 : ¬ (30 : Int) < content.length := by omega
    cases hs : smallB steps with
    | false =>
      have hsm := Lib.hid hs; clear hs
      go_enter Tryd.func8, Tryd.ntmps8
      go_wp2_with (first
        | (go_at_call 20; refine (law_small _ steps _ hv).mono ?_; rw [hsm.out]; rintro e w1 ⟨rfl, hb1⟩)
        | (go_at_call 10; refine (awake_ _).mono ?_; rintro e w4 ⟨rfl, hb4⟩)
        | fail)
      go_ret
      exact ⟨rfl, below_step hb1 hb4⟩
    | true =>
      have hsm := Lib.hid hs
      have hsb := hs
      simp only [smallB, Bool.and_eq_true, List.all_eq_true, decide_eq_true_eq] at hsb
      obtain ⟨hall, hlen⟩ := hsb
      have HALL := Lib.hid hall; clear hs hall
      obtain ⟨hg1, hp1, ht1⟩ := begun_gen content [] (by simp)
      have hl1 := begun_len content []
      have hout : Outside content (begun content []) := fun i hi => by rw [begun_get, if_neg (by omega), if_neg (by omega)]
      have HOUT := Lib.hid hout; clear hout
      have HG1 := Lib.hid hg1; have HP1 := Lib.hid hp1; have HT1 := Lib.hid ht1; have HL1 := Lib.hid hl1; clear hg1 hp1 ht1 hl1
      go_enter Tryd.func8, Tryd.ntmps8
      go_wp2_with (first
        | (go_at_call 20; refine (law_small _ steps _ hv).mono ?_; rw [hsm.out]; rintro e w1 ⟨rfl, hb1⟩)
        | fail)
      refine (law_begin _ _ content [] _ (hu.below hb1) (SlRep.nil _) hc (by simp)).mono ?_
      rintro e w2 ⟨sa, sn, ca, cn, rfl, ho2, hb2⟩
      generalize begun content [] = out0 at HG1 HP1 HT1 HL1 HOUT ho2 ⊢
      have hB2 : Below w.heap.size w w2 := below_step hb1 hb2
      have hI0 := SInv.start hc HL1.out HG1.out HT1.out ho2
      clear hb1 hb2 ho2
      go_wp2_with fail
      go_loopw [6, 7] (fun v i wr => KeeI w w2.heap.size steps content v i wr) (fun _ i _ => steps.length - (intOf i).toNat)
      case atStart => exact ⟨0, sa, sn, ca, cn, out0, Nat.zero_le _, rfl, rfl, hI0, HOUT.out, below_step hB2 (below_alloc w2 _)⟩
      case round =>
        obtain ⟨k, da, dn, ea, en, st, hk, rfl, rfl, hI, hP, hB⟩ := hrel
        by_cases hlt : k < steps.length
        · obtain ⟨x, hx⟩ : ∃ x, steps[k]? = some x := ⟨_, List.getElem?_eq_getElem hlt⟩
          have hox := hso x (List.mem_of_getElem? hx)
          have hfx := HALL.out x (List.mem_of_getElem? hx)
          have hpl : x.payload.length ≤ 31 := by simp only [stepFits, Bool.and_eq_true, decide_eq_true_eq] at hfx; exact hfx.1
          obtain ⟨b, o, pa, pc, xa, xc, e1, q0, q1, q2, hp, hcx⟩ := (hvs.below hB).step hx
          subst e1
          have hbox := hI.box
          have ec0 := cell_of_row wr _ 0 _ _ _ hbox
          have ec1 := cell_of_row wr _ 1 _ _ _ hbox
          have ef0 := frozen_of_row wr _ 0 _ _ hbox
          have ef1 := frozen_of_row wr _ 1 _ _ hbox
          simp at ec0 ec1
          have HI := Lib.hid hI; have HPV := Lib.hid hP; clear hI hP hx
          have hbb := HI.out.base (by omega) x.payload hpl
          have eA0 := keep (below_alloc wr (.cells #[.slice none 0 0, .slice none 0 0] 35)) ec0
          have eA1 := keep (below_alloc wr (.cells #[.slice none 0 0, .slice none 0 0] 35)) ec1
          have eA2 := keep (below_alloc wr (.cells #[.slice none 0 0, .slice none 0 0] 35)) q0
          have eA3 := keep (below_alloc wr (.cells #[.slice none 0 0, .slice none 0 0] 35)) q1
          have eA4 := keep (below_alloc wr (.cells #[.slice none 0 0, .slice none 0 0] 35)) q2
          have hbd := below_drew wr
          have hbz : Below wr.heap.size wr (wr.alloc (.cells #[.slice none 0 0, .slice none 0 0] 35)).drew := below_step (below_alloc wr _) (below_drew _)
          have HBOX := Lib.hid hbox; clear hbox
          have hzz : w2.heap.size < wr.heap.size := (Array.getElem?_eq_some_iff.1 HBOX.out).1
          go_wp2_with fail
          apply wp_joinS (AfterStep wr st x.payload)
          case h =>
            go_region_with (go_at_call 22; first
              | (refine (law_step _ _ st x wr.drew (HI.out.rep.below hbd) ⟨_, _, rfl, hp.below hbd, hcx.below hbd⟩ hbb hox hfx).mono ?_; rintro e w3 ⟨out, fa, fn, ga, gn, dd, rfl, ho, hm, hdn, hb3⟩; have HA := Lib.hid (afterA ho hm hdn hb3); clear ho hm hdn hb3)
              | (refine (law_step _ _ st x (wr.alloc (.cells #[.slice none 0 0, .slice none 0 0] 35)).drew (HI.out.rep.below hbz) ⟨_, _, rfl, hp.below hbz, hcx.below hbz⟩ hbb hox hfx).mono ?_; rintro e w3 ⟨out, fa, fn, ga, gn, dd, rfl, ho, hm, hdn, hb3⟩; have kz := keepB hb3 (show (wr.alloc (.cells #[.slice none 0 0, .slice none 0 0] 35)).drew.heap[wr.heap.size]? = _ from heap_alloc_new wr _); have HA := Lib.hid (afterB ho hm hdn hb3 kz); have zc0 := cell_of_row w3 _ 0 _ _ _ kz; have zc1 := cell_of_row w3 _ 1 _ _ _ kz; have zf0 := frozen_of_row w3 _ 0 _ _ kz; have zf1 := frozen_of_row w3 _ 1 _ _ kz; simp at zc0 zc1; clear ho hm hdn hb3))
            all_goals first
              | (obtain ⟨tb, htb⟩ : ∃ tb, tb = w3.heap.size := ⟨_, rfl⟩; rw [← htb] at HA ⊢; exact ⟨tb, out, fa, fn, ga, gn, dd, rfl, HA.out⟩)
              | (obtain ⟨tb, htb⟩ : ∃ tb, tb = wr.heap.size := ⟨_, rfl⟩; rw [← htb] at HA ⊢; exact ⟨tb, out, fa, fn, ga, gn, dd, rfl, HA.out⟩)
          case hq =>
            intro tb out fa fn ga gn dd W HF
            have hst := hbb.step HF.mix
            have hlo := hst.len
            have hlst := HI.out.len
            have hfit := HI.out.fit
            have hko : (⟨out, []⟩ : Disk).ok = true := by simp [Disk.ok]; omega
            have hino : insideB out.length ((5 : Nat) : Int) 16 = true := by simp [insideB]; omega
            have HKT := Lib.hid HF.box; have HKB := Lib.hid (keepB HF.bel HBOX.out); have HHF := Lib.hid HF
            have kt := HF.box
            have kb := HKB.out
            have tc0 := cell_of_row W _ 0 _ _ _ kt
            have tc1 := cell_of_row W _ 1 _ _ _ kt
            have tf0 := frozen_of_row W _ 0 _ _ kt
            have tf1 := frozen_of_row W _ 1 _ _ kt
            simp at tc0 tc1
            have ec0 := cell_of_row W _ 0 _ _ _ kb
            have ec1 := cell_of_row W _ 1 _ _ _ kb
            have ef0 := frozen_of_row W _ 0 _ _ kb
            have ef1 := frozen_of_row W _ 1 _ _ kb
            simp at ec0 ec1
            have hout : Outside content out := fun i hi => by rw [hst.rest i (by omega)]; exact HPV.out i hi
            have hBW : Below w.heap.size w W := below_step hB HF.bel
            clear kt kb hst HF eA0 eA1 eA2 eA3 eA4 q0 q1 q2 hp hcx hbd hbz hlo hlst hfit hko hino hv hvs hox hfx
            have HFIN : Hid (KeeI w w2.heap.size steps content (.bool true) (.int .i64 ((k : Int) + 1)) ((W.setCell ⟨w2.heap.size, 0, none⟩ (.slice fa out.length fn)).setCell ⟨w2.heap.size, 1, none⟩ (.slice ga 0 gn))) := Lib.hid
              ⟨k + 1, fa, fn, ga, gn, out, by omega, by go_num, rfl, HI.out.next (by omega) hpl HHF.out (Below.refl _ _), hout, (hBW.setCell (p := ⟨w2.heap.size, 0, none⟩) (by have := hB2.size; exact this) _).setCell (p := ⟨w2.heap.size, 1, none⟩) (by have := hB2.size; exact this) _⟩
            go_wp2
            go_roundw
            case rel => exact HFIN.out
            case measure => simp [intOf]; omega
        · obtain rfl : k = steps.length := by omega
          have heqs := eq_sec
          have hbox := hI.box
          have HOU := Lib.hid hP; clear hP hv hvs HALL hso
          have hus := hu.slat
          have hlen30 := hI.len
          have hfit30 := hI.fit
          have HI := Lib.hid hI; clear hI
          obtain ⟨wq, hwq⟩ : ∃ wq, wq = wr := ⟨_, rfl⟩
          subst hwq
          have ec0 := cell_of_row wq _ 0 _ _ _ hbox
          have ec1 := cell_of_row wq _ 1 _ _ _ hbox
          have ef0 := frozen_of_row wq _ 0 _ _ hbox
          have ef1 := frozen_of_row wq _ 1 _ _ hbox
          simp at ec0 ec1
          have HBOX := Lib.hid hbox; clear hbox
          go_wp2_with fail
          go_loopw [11] (fun i wr => ∃ j : Nat, j ≤ st.length ∧ i = .int .i64 j ∧ Below wq.heap.size wq wr) (fun i _ => st.length - (intOf i).toNat)
          case atStart => exact ⟨0, Nat.zero_le _, rfl, Below.refl _ _⟩
          case round =>
            obtain ⟨j, hj, rfl, hbj⟩ := hrel
            have kb := keepB hbj HBOX.out
            have gc0 := cell_of_row wr _ 0 _ _ _ kb
            have gc1 := cell_of_row wr _ 1 _ _ _ kb
            have gf0 := frozen_of_row wr _ 0 _ _ kb
            have gf1 := frozen_of_row wr _ 1 _ _ kb
            simp at gc0 gc1
            have HKB := Lib.hid kb; clear kb
            have hzz : w2.heap.size < wr.heap.size := (Array.getElem?_eq_some_iff.1 HKB.out).1
            by_cases hlt : j < st.length
            · obtain ⟨s, hs⟩ : ∃ s, st[j]? = some s := ⟨_, List.getElem?_eq_getElem hlt⟩
              obtain ⟨b1, o1, e1, q0, q1, q2, q3, q4, q5, q6, q7⟩ := (HI.out.own1.below hbj).slat.sec hs
              subst e1
              by_cases hcl : j < content.length
              · obtain ⟨c, hc'⟩ : ∃ c, content[j]? = some c := ⟨_, List.getElem?_eq_getElem hcl⟩
                have hsc : (j < 5 ∨ 21 ≤ j) → s = c := fun h => by
                  have h1 := HOU.out j h
                  rw [hs, bare, List.getElem?_append_left hcl, hc'] at h1
                  injection h1
                obtain ⟨b2, o2, e2, p0, p1, p2, p3, p4, p5, p6, p7⟩ := (hus.below (below_step hB hbj)).sec hc'
                subst e2
                have kp0 := keep (below_alloc wr (.cells #[.int .u8 0, .int .u8 0, .int .u8 0, .int .u8 0, .int .u8 0, .int .u8 0, .int .u8 0, .int .u8 0] 57)) p0
                have kp1 := keep (below_alloc wr (.cells #[.int .u8 0, .int .u8 0, .int .u8 0, .int .u8 0, .int .u8 0, .int .u8 0, .int .u8 0, .int .u8 0] 57)) p1
                have kp2 := keep (below_alloc wr (.cells #[.int .u8 0, .int .u8 0, .int .u8 0, .int .u8 0, .int .u8 0, .int .u8 0, .int .u8 0, .int .u8 0] 57)) p2
                have kp3 := keep (below_alloc wr (.cells #[.int .u8 0, .int .u8 0, .int .u8 0, .int .u8 0, .int .u8 0, .int .u8 0, .int .u8 0, .int .u8 0] 57)) p3
                have kp4 := keep (below_alloc wr (.cells #[.int .u8 0, .int .u8 0, .int .u8 0, .int .u8 0, .int .u8 0, .int .u8 0, .int .u8 0, .int .u8 0] 57)) p4
                have kp5 := keep (below_alloc wr (.cells #[.int .u8 0, .int .u8 0, .int .u8 0, .int .u8 0, .int .u8 0, .int .u8 0, .int .u8 0, .int .u8 0] 57)) p5
                have kp6 := keep (below_alloc wr (.cells #[.int .u8 0, .int .u8 0, .int .u8 0, .int .u8 0, .int .u8 0, .int .u8 0, .int .u8 0, .int .u8 0] 57)) p6
                have kp7 := keep (below_alloc wr (.cells #[.int .u8 0, .int .u8 0, .int .u8 0, .int .u8 0, .int .u8 0, .int .u8 0, .int .u8 0, .int .u8 0] 57)) p7
                have g0 : (j : Int) < content.length := by omega
                have HSC := Lib.hid hsc; clear hsc hs hc' p0 p1 p2 p3 p4 p5 p6 p7
                by_cases h5 : j < 5
                · obtain rfl : c = s := (HSC.out (by omega)).symm
                  have g5 : (j : Int) < 5 := by omega
                  go_wp2_with fail
                  have hba := below_alloc wr (.cells #[.int .u8 c.b0.toNat, .int .u8 c.b1.toNat, .int .u8 c.b2.toNat, .int .u8 c.b3.toNat, .int .u8 c.b4.toNat, .int .u8 c.b5.toNat, .int .u8 c.b6.toNat, .int .u8 c.b7.toNat] 57)
                  have kn := heap_alloc_new wr (.cells #[.int .u8 c.b0.toNat, .int .u8 c.b1.toNat, .int .u8 c.b2.toNat, .int .u8 c.b3.toNat, .int .u8 c.b4.toNat, .int .u8 c.b5.toNat, .int .u8 c.b6.toNat, .int .u8 c.b7.toNat] 57)
                  have n0 := keep hba q0
                  have n1 := keep hba q1
                  have n2 := keep hba q2
                  have n3 := keep hba q3
                  have n4 := keep hba q4
                  have n5 := keep hba q5
                  have n6 := keep hba q6
                  have n7 := keep hba q7
                  have kg := keepB hba HKB.out
                  have hbw : Below wq.heap.size wq (wr.alloc (.cells #[.int .u8 c.b0.toNat, .int .u8 c.b1.toNat, .int .u8 c.b2.toNat, .int .u8 c.b3.toNat, .int .u8 c.b4.toNat, .int .u8 c.b5.toNat, .int .u8 c.b6.toNat, .int .u8 c.b7.toNat] 57)) := below_step hbj hba
                  generalize wr.alloc (.cells #[.int .u8 c.b0.toNat, .int .u8 c.b1.toNat, .int .u8 c.b2.toNat, .int .u8 c.b3.toNat, .int .u8 c.b4.toNat, .int .u8 c.b5.toNat, .int .u8 c.b6.toNat, .int .u8 c.b7.toNat] 57) = W3 at *
                  clear gc0 gc1 gf0 gf1 q0 q1 q2 q3 q4 q5 q6 q7
                  have gc0 := cell_of_row W3 _ 0 _ _ _ kg
                  have gc1 := cell_of_row W3 _ 1 _ _ _ kg
                  have gf0 := frozen_of_row W3 _ 0 _ _ kg
                  have gf1 := frozen_of_row W3 _ 1 _ _ kg
                  simp at gc0 gc1
                  have mc0 := cell_of_row W3 _ 0 _ _ _ kn
                  have mc1 := cell_of_row W3 _ 1 _ _ _ kn
                  have mc2 := cell_of_row W3 _ 2 _ _ _ kn
                  have mc3 := cell_of_row W3 _ 3 _ _ _ kn
                  have mc4 := cell_of_row W3 _ 4 _ _ _ kn
                  have mc5 := cell_of_row W3 _ 5 _ _ _ kn
                  have mc6 := cell_of_row W3 _ 6 _ _ _ kn
                  have mc7 := cell_of_row W3 _ 7 _ _ _ kn
                  have mf0 := frozen_of_row W3 _ 0 _ _ kn
                  have mf1 := frozen_of_row W3 _ 1 _ _ kn
                  have mf2 := frozen_of_row W3 _ 2 _ _ kn
                  have mf3 := frozen_of_row W3 _ 3 _ _ kn
                  have mf4 := frozen_of_row W3 _ 4 _ _ kn
                  have mf5 := frozen_of_row W3 _ 5 _ _ kn
                  have mf6 := frozen_of_row W3 _ 6 _ _ kn
                  have mf7 := frozen_of_row W3 _ 7 _ _ kn
                  simp at mc0 mc1 mc2 mc3 mc4 mc5 mc6 mc7
                  clear kg kn hba
                  go_quiet (fail)
                  go_wp2
                  go_roundw
                  case rel => exact ⟨j + 1, by omega, by go_num, below_drewN hbw _⟩
                  case measure => simp [intOf]; omega
                · by_cases h21 : j < 21
                  · have g5 : ¬ (j : Int) < 5 := by omega
                    have g21 : ¬ (21 : Int) ≤ j := by omega
                    have g5d : decide ((j : Int) < 5) = false := decide_eq_false g5
                    have g21d : decide ((21 : Int) ≤ j) = false := decide_eq_false g21
                    go_wp2_with fail
                    have hba := below_alloc wr (.cells #[.int .u8 c.b0.toNat, .int .u8 c.b1.toNat, .int .u8 c.b2.toNat, .int .u8 c.b3.toNat, .int .u8 c.b4.toNat, .int .u8 c.b5.toNat, .int .u8 c.b6.toNat, .int .u8 c.b7.toNat] 57)
                    have kn := heap_alloc_new wr (.cells #[.int .u8 c.b0.toNat, .int .u8 c.b1.toNat, .int .u8 c.b2.toNat, .int .u8 c.b3.toNat, .int .u8 c.b4.toNat, .int .u8 c.b5.toNat, .int .u8 c.b6.toNat, .int .u8 c.b7.toNat] 57)
                    have n0 := keep hba q0
                    have n1 := keep hba q1
                    have n2 := keep hba q2
                    have n3 := keep hba q3
                    have n4 := keep hba q4
                    have n5 := keep hba q5
                    have n6 := keep hba q6
                    have n7 := keep hba q7
                    have kg := keepB hba HKB.out
                    have hbw : Below wq.heap.size wq (wr.alloc (.cells #[.int .u8 c.b0.toNat, .int .u8 c.b1.toNat, .int .u8 c.b2.toNat, .int .u8 c.b3.toNat, .int .u8 c.b4.toNat, .int .u8 c.b5.toNat, .int .u8 c.b6.toNat, .int .u8 c.b7.toNat] 57)) := below_step hbj hba
                    generalize wr.alloc (.cells #[.int .u8 c.b0.toNat, .int .u8 c.b1.toNat, .int .u8 c.b2.toNat, .int .u8 c.b3.toNat, .int .u8 c.b4.toNat, .int .u8 c.b5.toNat, .int .u8 c.b6.toNat, .int .u8 c.b7.toNat] 57) = W3 at *
                    clear gc0 gc1 gf0 gf1 q0 q1 q2 q3 q4 q5 q6 q7
                    have gc0 := cell_of_row W3 _ 0 _ _ _ kg
                    have gc1 := cell_of_row W3 _ 1 _ _ _ kg
                    have gf0 := frozen_of_row W3 _ 0 _ _ kg
                    have gf1 := frozen_of_row W3 _ 1 _ _ kg
                    simp at gc0 gc1
                    have mc0 := cell_of_row W3 _ 0 _ _ _ kn
                    have mc1 := cell_of_row W3 _ 1 _ _ _ kn
                    have mc2 := cell_of_row W3 _ 2 _ _ _ kn
                    have mc3 := cell_of_row W3 _ 3 _ _ _ kn
                    have mc4 := cell_of_row W3 _ 4 _ _ _ kn
                    have mc5 := cell_of_row W3 _ 5 _ _ _ kn
                    have mc6 := cell_of_row W3 _ 6 _ _ _ kn
                    have mc7 := cell_of_row W3 _ 7 _ _ _ kn
                    have mf0 := frozen_of_row W3 _ 0 _ _ kn
                    have mf1 := frozen_of_row W3 _ 1 _ _ kn
                    have mf2 := frozen_of_row W3 _ 2 _ _ kn
                    have mf3 := frozen_of_row W3 _ 3 _ _ kn
                    have mf4 := frozen_of_row W3 _ 4 _ _ kn
                    have mf5 := frozen_of_row W3 _ 5 _ _ kn
                    have mf6 := frozen_of_row W3 _ 6 _ _ kn
                    have mf7 := frozen_of_row W3 _ 7 _ _ kn
                    simp at mc0 mc1 mc2 mc3 mc4 mc5 mc6 mc7
                    clear kg kn hba
                    go_quiet (fail)
                    go_wp2
                    go_roundw
                    case rel => exact ⟨j + 1, by omega, by go_num, below_drewN hbw _⟩
                    case measure => simp [intOf]; omega
                  · obtain rfl : c = s := (HSC.out (by omega)).symm
                    have g5 : ¬ (j : Int) < 5 := by omega
                    have g21 : (21 : Int) ≤ j := by omega
                    go_wp2_with fail
                    have hba := below_alloc wr (.cells #[.int .u8 c.b0.toNat, .int .u8 c.b1.toNat, .int .u8 c.b2.toNat, .int .u8 c.b3.toNat, .int .u8 c.b4.toNat, .int .u8 c.b5.toNat, .int .u8 c.b6.toNat, .int .u8 c.b7.toNat] 57)
                    have kn := heap_alloc_new wr (.cells #[.int .u8 c.b0.toNat, .int .u8 c.b1.toNat, .int .u8 c.b2.toNat, .int .u8 c.b3.toNat, .int .u8 c.b4.toNat, .int .u8 c.b5.toNat, .int .u8 c.b6.toNat, .int .u8 c.b7.toNat] 57)
                    have n0 := keep hba q0
                    have n1 := keep hba q1
                    have n2 := keep hba q2
                    have n3 := keep hba q3
                    have n4 := keep hba q4
                    have n5 := keep hba q5
                    have n6 := keep hba q6
                    have n7 := keep hba q7
                    have kg := keepB hba HKB.out
                    have hbw : Below wq.heap.size wq (wr.alloc (.cells #[.int .u8 c.b0.toNat, .int .u8 c.b1.toNat, .int .u8 c.b2.toNat, .int .u8 c.b3.toNat, .int .u8 c.b4.toNat, .int .u8 c.b5.toNat, .int .u8 c.b6.toNat, .int .u8 c.b7.toNat] 57)) := below_step hbj hba
                    generalize wr.alloc (.cells #[.int .u8 c.b0.toNat, .int .u8 c.b1.toNat, .int .u8 c.b2.toNat, .int .u8 c.b3.toNat, .int .u8 c.b4.toNat, .int .u8 c.b5.toNat, .int .u8 c.b6.toNat, .int .u8 c.b7.toNat] 57) = W3 at *
                    clear gc0 gc1 gf0 gf1 q0 q1 q2 q3 q4 q5 q6 q7
                    have gc0 := cell_of_row W3 _ 0 _ _ _ kg
                    have gc1 := cell_of_row W3 _ 1 _ _ _ kg
                    have gf0 := frozen_of_row W3 _ 0 _ _ kg
                    have gf1 := frozen_of_row W3 _ 1 _ _ kg
                    simp at gc0 gc1
                    have mc0 := cell_of_row W3 _ 0 _ _ _ kn
                    have mc1 := cell_of_row W3 _ 1 _ _ _ kn
                    have mc2 := cell_of_row W3 _ 2 _ _ _ kn
                    have mc3 := cell_of_row W3 _ 3 _ _ _ kn
                    have mc4 := cell_of_row W3 _ 4 _ _ _ kn
                    have mc5 := cell_of_row W3 _ 5 _ _ _ kn
                    have mc6 := cell_of_row W3 _ 6 _ _ _ kn
                    have mc7 := cell_of_row W3 _ 7 _ _ _ kn
                    have mf0 := frozen_of_row W3 _ 0 _ _ kn
                    have mf1 := frozen_of_row W3 _ 1 _ _ kn
                    have mf2 := frozen_of_row W3 _ 2 _ _ kn
                    have mf3 := frozen_of_row W3 _ 3 _ _ kn
                    have mf4 := frozen_of_row W3 _ 4 _ _ kn
                    have mf5 := frozen_of_row W3 _ 5 _ _ kn
                    have mf6 := frozen_of_row W3 _ 6 _ _ kn
                    have mf7 := frozen_of_row W3 _ 7 _ _ kn
                    simp at mc0 mc1 mc2 mc3 mc4 mc5 mc6 mc7
                    clear kg kn hba
                    go_quiet (fail)
                    go_wp2
                    go_roundw
                    case rel => exact ⟨j + 1, by omega, by go_num, below_drewN hbw _⟩
                    case measure => simp [intOf]; omega
              · have hsc : (j < 5 ∨ 21 ≤ j) → s = Sec.zero := fun h => by
                  have h1 := HOU.out j h
                  rw [hs, bare, List.getElem?_append_right (by omega), List.getElem?_replicate, if_pos (by omega)] at h1
                  injection h1
                have g0 : ¬ (j : Int) < content.length := by omega
                have HSC := Lib.hid hsc; clear hsc hs
                by_cases h5 : j < 5
                · obtain rfl := HSC.out (by omega)
                  have q0 : wr.cell? ⟨b1, o1 + j * 8, none⟩ = some (.int .u8 0) := q0
                  have q1 : wr.cell? ⟨b1, o1 + j * 8 + 1, none⟩ = some (.int .u8 0) := q1
                  have q2 : wr.cell? ⟨b1, o1 + j * 8 + 2, none⟩ = some (.int .u8 0) := q2
                  have q3 : wr.cell? ⟨b1, o1 + j * 8 + 3, none⟩ = some (.int .u8 0) := q3
                  have q4 : wr.cell? ⟨b1, o1 + j * 8 + 4, none⟩ = some (.int .u8 0) := q4
                  have q5 : wr.cell? ⟨b1, o1 + j * 8 + 5, none⟩ = some (.int .u8 0) := q5
                  have q6 : wr.cell? ⟨b1, o1 + j * 8 + 6, none⟩ = some (.int .u8 0) := q6
                  have q7 : wr.cell? ⟨b1, o1 + j * 8 + 7, none⟩ = some (.int .u8 0) := q7
                  have g5 : (j : Int) < 5 := by omega
                  go_wp2_with fail
                  have hba := below_alloc wr (.cells #[.int .u8 0, .int .u8 0, .int .u8 0, .int .u8 0, .int .u8 0, .int .u8 0, .int .u8 0, .int .u8 0] 57)
                  have kn := heap_alloc_new wr (.cells #[.int .u8 0, .int .u8 0, .int .u8 0, .int .u8 0, .int .u8 0, .int .u8 0, .int .u8 0, .int .u8 0] 57)
                  have n0 := keep hba q0
                  have n1 := keep hba q1
                  have n2 := keep hba q2
                  have n3 := keep hba q3
                  have n4 := keep hba q4
                  have n5 := keep hba q5
                  have n6 := keep hba q6
                  have n7 := keep hba q7
                  have kg := keepB hba HKB.out
                  have hbw : Below wq.heap.size wq (wr.alloc (.cells #[.int .u8 0, .int .u8 0, .int .u8 0, .int .u8 0, .int .u8 0, .int .u8 0, .int .u8 0, .int .u8 0] 57)) := below_step hbj hba
                  generalize wr.alloc (.cells #[.int .u8 0, .int .u8 0, .int .u8 0, .int .u8 0, .int .u8 0, .int .u8 0, .int .u8 0, .int .u8 0] 57) = W3 at *
                  clear gc0 gc1 gf0 gf1 q0 q1 q2 q3 q4 q5 q6 q7
                  have gc0 := cell_of_row W3 _ 0 _ _ _ kg
                  have gc1 := cell_of_row W3 _ 1 _ _ _ kg
                  have gf0 := frozen_of_row W3 _ 0 _ _ kg
                  have gf1 := frozen_of_row W3 _ 1 _ _ kg
                  simp at gc0 gc1
                  have mc0 := cell_of_row W3 _ 0 _ _ _ kn
                  have mc1 := cell_of_row W3 _ 1 _ _ _ kn
                  have mc2 := cell_of_row W3 _ 2 _ _ _ kn
                  have mc3 := cell_of_row W3 _ 3 _ _ _ kn
                  have mc4 := cell_of_row W3 _ 4 _ _ _ kn
                  have mc5 := cell_of_row W3 _ 5 _ _ _ kn
                  have mc6 := cell_of_row W3 _ 6 _ _ _ kn
                  have mc7 := cell_of_row W3 _ 7 _ _ _ kn
                  have mf0 := frozen_of_row W3 _ 0 _ _ kn
                  have mf1 := frozen_of_row W3 _ 1 _ _ kn
                  have mf2 := frozen_of_row W3 _ 2 _ _ kn
                  have mf3 := frozen_of_row W3 _ 3 _ _ kn
                  have mf4 := frozen_of_row W3 _ 4 _ _ kn
                  have mf5 := frozen_of_row W3 _ 5 _ _ kn
                  have mf6 := frozen_of_row W3 _ 6 _ _ kn
                  have mf7 := frozen_of_row W3 _ 7 _ _ kn
                  simp at mc0 mc1 mc2 mc3 mc4 mc5 mc6 mc7
                  clear kg kn hba
                  go_quiet (fail)
                  go_wp2
                  go_roundw
                  case rel => exact ⟨j + 1, by omega, by go_num, below_drewN hbw _⟩
                  case measure => simp [intOf]; omega
                · by_cases h21 : j < 21
                  · have g5 : ¬ (j : Int) < 5 := by omega
                    have g21 : ¬ (21 : Int) ≤ j := by omega
                    have g5d : decide ((j : Int) < 5) = false := decide_eq_false g5
                    have g21d : decide ((21 : Int) ≤ j) = false := decide_eq_false g21
                    go_wp2_with fail
                    have hba := below_alloc wr (.cells #[.int .u8 0, .int .u8 0, .int .u8 0, .int .u8 0, .int .u8 0, .int .u8 0, .int .u8 0, .int .u8 0] 57)
                    have kn := heap_alloc_new wr (.cells #[.int .u8 0, .int .u8 0, .int .u8 0, .int .u8 0, .int .u8 0, .int .u8 0, .int .u8 0, .int .u8 0] 57)
                    have n0 := keep hba q0
                    have n1 := keep hba q1
                    have n2 := keep hba q2
                    have n3 := keep hba q3
                    have n4 := keep hba q4
                    have n5 := keep hba q5
                    have n6 := keep hba q6
                    have n7 := keep hba q7
                    have kg := keepB hba HKB.out
                    have hbw : Below wq.heap.size wq (wr.alloc (.cells #[.int .u8 0, .int .u8 0, .int .u8 0, .int .u8 0, .int .u8 0, .int .u8 0, .int .u8 0, .int .u8 0] 57)) := below_step hbj hba
                    generalize wr.alloc (.cells #[.int .u8 0, .int .u8 0, .int .u8 0, .int .u8 0, .int .u8 0, .int .u8 0, .int .u8 0, .int .u8 0] 57) = W3 at *
                    clear gc0 gc1 gf0 gf1 q0 q1 q2 q3 q4 q5 q6 q7
                    have gc0 := cell_of_row W3 _ 0 _ _ _ kg
                    have gc1 := cell_of_row W3 _ 1 _ _ _ kg
                    have gf0 := frozen_of_row W3 _ 0 _ _ kg
                    have gf1 := frozen_of_row W3 _ 1 _ _ kg
                    simp at gc0 gc1
                    have mc0 := cell_of_row W3 _ 0 _ _ _ kn
                    have mc1 := cell_of_row W3 _ 1 _ _ _ kn
                    have mc2 := cell_of_row W3 _ 2 _ _ _ kn
                    have mc3 := cell_of_row W3 _ 3 _ _ _ kn
                    have mc4 := cell_of_row W3 _ 4 _ _ _ kn
                    have mc5 := cell_of_row W3 _ 5 _ _ _ kn
                    have mc6 := cell_of_row W3 _ 6 _ _ _ kn
                    have mc7 := cell_of_row W3 _ 7 _ _ _ kn
                    have mf0 := frozen_of_row W3 _ 0 _ _ kn
                    have mf1 := frozen_of_row W3 _ 1 _ _ kn
                    have mf2 := frozen_of_row W3 _ 2 _ _ kn
                    have mf3 := frozen_of_row W3 _ 3 _ _ kn
                    have mf4 := frozen_of_row W3 _ 4 _ _ kn
                    have mf5 := frozen_of_row W3 _ 5 _ _ kn
                    have mf6 := frozen_of_row W3 _ 6 _ _ kn
                    have mf7 := frozen_of_row W3 _ 7 _ _ kn
                    simp at mc0 mc1 mc2 mc3 mc4 mc5 mc6 mc7
                    clear kg kn hba
                    go_quiet (fail)
                    go_wp2
                    go_roundw
                    case rel => exact ⟨j + 1, by omega, by go_num, below_drewN hbw _⟩
                    case measure => simp [intOf]; omega
                  · obtain rfl := HSC.out (by omega)
                    have q0 : wr.cell? ⟨b1, o1 + j * 8, none⟩ = some (.int .u8 0) := q0
                    have q1 : wr.cell? ⟨b1, o1 + j * 8 + 1, none⟩ = some (.int .u8 0) := q1
                    have q2 : wr.cell? ⟨b1, o1 + j * 8 + 2, none⟩ = some (.int .u8 0) := q2
                    have q3 : wr.cell? ⟨b1, o1 + j * 8 + 3, none⟩ = some (.int .u8 0) := q3
                    have q4 : wr.cell? ⟨b1, o1 + j * 8 + 4, none⟩ = some (.int .u8 0) := q4
                    have q5 : wr.cell? ⟨b1, o1 + j * 8 + 5, none⟩ = some (.int .u8 0) := q5
                    have q6 : wr.cell? ⟨b1, o1 + j * 8 + 6, none⟩ = some (.int .u8 0) := q6
                    have q7 : wr.cell? ⟨b1, o1 + j * 8 + 7, none⟩ = some (.int .u8 0) := q7
                    have g5 : ¬ (j : Int) < 5 := by omega
                    have g21 : (21 : Int) ≤ j := by omega
                    go_wp2_with fail
                    have hba := below_alloc wr (.cells #[.int .u8 0, .int .u8 0, .int .u8 0, .int .u8 0, .int .u8 0, .int .u8 0, .int .u8 0, .int .u8 0] 57)
                    have kn := heap_alloc_new wr (.cells #[.int .u8 0, .int .u8 0, .int .u8 0, .int .u8 0, .int .u8 0, .int .u8 0, .int .u8 0, .int .u8 0] 57)
                    have n0 := keep hba q0
                    have n1 := keep hba q1
                    have n2 := keep hba q2
                    have n3 := keep hba q3
                    have n4 := keep hba q4
                    have n5 := keep hba q5
                    have n6 := keep hba q6
                    have n7 := keep hba q7
                    have kg := keepB hba HKB.out
                    have hbw : Below wq.heap.size wq (wr.alloc (.cells #[.int .u8 0, .int .u8 0, .int .u8 0, .int .u8 0, .int .u8 0, .int .u8 0, .int .u8 0, .int .u8 0] 57)) := below_step hbj hba
                    generalize wr.alloc (.cells #[.int .u8 0, .int .u8 0, .int .u8 0, .int .u8 0, .int .u8 0, .int .u8 0, .int .u8 0, .int .u8 0] 57) = W3 at *
                    clear gc0 gc1 gf0 gf1 q0 q1 q2 q3 q4 q5 q6 q7
                    have gc0 := cell_of_row W3 _ 0 _ _ _ kg
                    have gc1 := cell_of_row W3 _ 1 _ _ _ kg
                    have gf0 := frozen_of_row W3 _ 0 _ _ kg
                    have gf1 := frozen_of_row W3 _ 1 _ _ kg
                    simp at gc0 gc1
                    have mc0 := cell_of_row W3 _ 0 _ _ _ kn
                    have mc1 := cell_of_row W3 _ 1 _ _ _ kn
                    have mc2 := cell_of_row W3 _ 2 _ _ _ kn
                    have mc3 := cell_of_row W3 _ 3 _ _ _ kn
                    have mc4 := cell_of_row W3 _ 4 _ _ _ kn
                    have mc5 := cell_of_row W3 _ 5 _ _ _ kn
                    have mc6 := cell_of_row W3 _ 6 _ _ _ kn
                    have mc7 := cell_of_row W3 _ 7 _ _ _ kn
                    have mf0 := frozen_of_row W3 _ 0 _ _ kn
                    have mf1 := frozen_of_row W3 _ 1 _ _ kn
                    have mf2 := frozen_of_row W3 _ 2 _ _ kn
                    have mf3 := frozen_of_row W3 _ 3 _ _ kn
                    have mf4 := frozen_of_row W3 _ 4 _ _ kn
                    have mf5 := frozen_of_row W3 _ 5 _ _ kn
                    have mf6 := frozen_of_row W3 _ 6 _ _ kn
                    have mf7 := frozen_of_row W3 _ 7 _ _ kn
                    simp at mc0 mc1 mc2 mc3 mc4 mc5 mc6 mc7
                    clear kg kn hba
                    go_quiet (fail)
                    go_wp2
                    go_roundw
                    case rel => exact ⟨j + 1, by omega, by go_num, below_drewN hbw _⟩
                    case measure => simp [intOf]; omega
            · obtain rfl : j = st.length := by omega
              have hl30 : (st.length : Int) = (content.length : Int) + 30 := by omega
              go_wp2_with (first
                | (go_at_call 10; refine (awake_ _).mono ?_; rintro e w4 ⟨rfl, hb4⟩; have kb4 := keepB hb4 HKB.out; have hc0 := cell_of_row w4 _ 0 _ _ _ kb4; have hc1 := cell_of_row w4 _ 1 _ _ _ kb4; have hf0 := frozen_of_row w4 _ 0 _ _ kb4; have hf1 := frozen_of_row w4 _ 1 _ _ kb4; simp at hc0 hc1)
                | fail)
              go_ret
              exact ⟨rfl, below_step (below_step hB hbj) hb4⟩
  · have t1 : (30 : Int) < content.length := by omega
    go_enter Tryd.func8, Tryd.ntmps8
    go_wp2_with (first
      | (go_at_call 10; refine (awake_ _).mono ?_; rintro e w4 ⟨rfl, hb4⟩)
      | fail)
    go_ret
    exact ⟨rfl, hb4⟩
end Go.Proofs.YtnddgpkljpjjbaaDoor
