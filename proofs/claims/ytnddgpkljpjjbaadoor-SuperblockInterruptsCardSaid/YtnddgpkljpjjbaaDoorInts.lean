/- law12.SuperblockInterrupts: the walk of the law. -/
import Derived.Test.YtnddgpkljpjjbaaDoorLaws0
namespace Go.Proofs.YtnddgpkljpjjbaaDoor
open Go.RowKit
set_option linter.unusedVariables false
set_option linter.unusedSimpArgs false
theorem bytes_eqB (u v : Value) (xs ys : List UInt8) (b : Bool) (w : World) (hu : SlRep w u xs) (hv : SlRep w v ys) (hb : decide (xs = ys) = b) :
    Calls Tryd.prog 17 #[u, v] w (RetB w (.bool b)) := by rw [← hb]; exact bytes_Equal u v xs ys w hu hv
theorem bytes123 {w : World} {b : Nat} (hb : b = w.heap.size) : SlRep (w.alloc (.cells #[.int .u8 1, .int .u8 2, .int .u8 3] 5)) (.slice (some ⟨b, 0, none⟩) 3 3) ([1, 2, 3] : List UInt8) := by
  subst hb
  refine SlRep.two (xs := ([1, 2, 3] : List UInt8)) [[.int .u8 1], [.int .u8 2], [.int .u8 3]] rfl ?_ rfl (by simp)
  intro i z c hx hc
  match i, hx, hc with
  | 0, hx, hc => cases hx; cases hc; rfl
  | 1, hx, hc => cases hx; cases hc; rfl
  | 2, hx, hc => cases hx; cases hc; rfl
  | i + 3, hx, hc => simp at hc
theorem int_facts {wr W : World} {st out : List Sec} {X val P : List UInt8} {tb fn gn : Nat} {fa ga : Option Addr} {dd : Bool} (HF : AfterStep wr st X tb out fa fn ga gn dd W) (hb : Base st 5 X) (hv : supPay ⟨st, []⟩ 5 = val) (hP : P = supPay ⟨out, []⟩ 5) : (dd = true → P = X) ∧ (P ≠ val → P = X) := by
  have hst := hb.step HF.mix
  refine ⟨fun hd => ?_, fun hne => ?_⟩
  · have := hb.done.1
    rw [← HF.done hd] at this
    rw [hP]; exact this
  · rcases hst.one with ⟨e, _⟩ | ⟨e, _⟩
    · exact absurd (hP.trans (e.trans hv)) hne
    · exact hP.trans e
theorem bytes_eqT (u v : Value) (xs ys : List UInt8) (w : World) (hu : SlRep w u xs) (hv : SlRep w v ys) (h : xs = ys) : Calls Tryd.prog 17 #[u, v] w (RetB w (.bool true)) := by
  have := bytes_Equal u v xs ys w hu hv
  rwa [decide_eq_true h] at this
theorem bytes_eqF (u v : Value) (xs ys : List UInt8) (w : World) (hu : SlRep w u xs) (hv : SlRep w v ys) (h : xs ≠ ys) : Calls Tryd.prog 17 #[u, v] w (RetB w (.bool false)) := by
  have := bytes_Equal u v xs ys w hu hv
  rwa [decide_eq_false h] at this
def IntI (w : World) (b0 : Nat) (steps : List StepD) (N : Nat) (v i : Value) (wr : World) : Prop :=
  ∃ (k : Nat) (sa : Option Addr) (sn : Nat) (ca : Option Addr) (cn : Nat) (st : List Sec) (va : Option Addr) (vc : Nat) (val : List UInt8), k ≤ steps.length ∧ i = .int .i64 k ∧ v = .slice va val.length vc ∧ SInv b0 wr sa sn ca cn st k N ∧ SlRep wr (.slice va val.length vc) val ∧ supPay ⟨st, []⟩ 5 = val ∧ Below w.heap.size w wr
set_option maxRecDepth 100000 in
set_option maxHeartbeats 4000000 in
theorem law_interrupts (u : Value) (content : List Sec) (v : Value) (steps : List StepD) (w : World) (hu : SlRep w u content) (hv : SlRep w v steps) (hso : ∀ s ∈ steps, StepOk s) :
    Calls Tryd.prog 6 #[u, v] w (RetB w (.bool true)) := by
  obtain ⟨ua, uc, rfl, _⟩ := hu.ex
  obtain ⟨va, vc, rfl, hvs, _⟩ := hv.ex
  by_cases hc : content.length ≤ 30
  · have t1 : ¬ (30 : Int) < content.length := by omega
    cases hs : smallB steps with
    | false =>
      have hsm := Lib.hid hs; clear hs
      go_enter Tryd.func6, Tryd.ntmps6
      go_wp2_with (first
        | (go_at_call 20; refine (law_small _ steps _ hv).mono ?_; rw [hsm.out]; rintro e w1 ⟨rfl, hb1⟩)
        | (go_at_call 10; refine (awake_ _).mono ?_; rintro e w4 ⟨rfl, hb4⟩)
        | fail)
      go_ret
      exact ⟨rfl, below_step hb1 hb4⟩
    | true =>
      have hsm := Lib.hid hs
      have hsb := hs
      simp only [smallB, Bool.and_eq_true, List.all_eq_true, decide_eq_true_eq] at hsb
      obtain ⟨hall, hlen⟩ := hsb
      have HALL := Lib.hid hall; clear hs hall
      obtain ⟨hg1, hp1, ht1⟩ := begun_gen content [1, 2, 3] (by simp)
      have hl1 := begun_len content [1, 2, 3]
      have HG1 := Lib.hid hg1; have HP1 := Lib.hid hp1; have HT1 := Lib.hid ht1; have HL1 := Lib.hid hl1; clear hg1 hp1 ht1 hl1
      go_enter Tryd.func6, Tryd.ntmps6
      go_wp2_with (first
        | (go_at_call 20; refine (law_small _ steps _ hv).mono ?_; rw [hsm.out]; rintro e w1 ⟨rfl, hb1⟩)
        | fail)
      refine (law_begin _ _ content [1, 2, 3] _ (hu.below (below_step hb1 (below_alloc w1 _))) (bytes123 rfl) hc (by simp)).mono ?_
      rintro e w2 ⟨sa, sn, ca, cn, rfl, ho2, hb2⟩
      generalize begun content [1, 2, 3] = out0 at HG1 HP1 HT1 HL1 ho2 ⊢
      have hB2 : Below w.heap.size w w2 := below_step (below_step hb1 (below_alloc w1 _)) hb2
      have hI0 := SInv.start hc HL1.out HG1.out HT1.out ho2
      have h123 : SlRep (w2.alloc (.cells #[.slice sa out0.length sn, .slice ca 0 cn] 35)) (.slice (some ⟨w1.heap.size, 0, none⟩) 3 3) ([1, 2, 3] : List UInt8) := ((bytes123 rfl).below hb2).below (below_alloc w2 _)
      clear hb1 hb2 ho2
      go_wp2_with fail
      go_loopw [5, 8] (fun v i wr => IntI w w2.heap.size steps content.length v i wr) (fun _ i _ => steps.length - (intOf i).toNat)
      case atStart => exact ⟨0, sa, sn, ca, cn, out0, _, _, [1, 2, 3], Nat.zero_le _, rfl, rfl, hI0, h123, HP1.out, below_step hB2 (below_alloc w2 _)⟩
      case round =>
        obtain ⟨k, da, dn, ea, en, st, la, lc, val, hk, rfl, rfl, hI, hval, hP, hB⟩ := hrel
        by_cases hlt : k < steps.length
        · obtain ⟨x, hx⟩ : ∃ x, steps[k]? = some x := ⟨_, List.getElem?_eq_getElem hlt⟩
          have hox := hso x (List.mem_of_getElem? hx)
          have hfx := HALL.out x (List.mem_of_getElem? hx)
          have hpl : x.payload.length ≤ 31 := by simp only [stepFits, Bool.and_eq_true, decide_eq_true_eq] at hfx; exact hfx.1
          obtain ⟨b, o, pa, pc, xa, xc, e1, q0, q1, q2, hp, hcx⟩ := (hvs.below hB).step hx
          subst e1
          have hbox := hI.box
          have ec0 := cell_of_row wr _ 0 _ _ _ hbox
          have ec1 := cell_of_row wr _ 1 _ _ _ hbox
          have ef0 := frozen_of_row wr _ 0 _ _ hbox
          have ef1 := frozen_of_row wr _ 1 _ _ hbox
          simp at ec0 ec1
          have HI := Lib.hid hI; have HPV := Lib.hid hP; clear hI hP hx
          have hbb := HI.out.base (by omega) x.payload hpl
          have eA0 := keep (below_alloc wr (.cells #[.slice none 0 0, .slice none 0 0] 35)) ec0
          have eA1 := keep (below_alloc wr (.cells #[.slice none 0 0, .slice none 0 0] 35)) ec1
          have eA2 := keep (below_alloc wr (.cells #[.slice none 0 0, .slice none 0 0] 35)) q0
          have eA3 := keep (below_alloc wr (.cells #[.slice none 0 0, .slice none 0 0] 35)) q1
          have eA4 := keep (below_alloc wr (.cells #[.slice none 0 0, .slice none 0 0] 35)) q2
          have hbd := below_drew wr
          have hbz : Below wr.heap.size wr (wr.alloc (.cells #[.slice none 0 0, .slice none 0 0] 35)).drew := below_step (below_alloc wr _) (below_drew _)
          have HBOX := Lib.hid hbox; clear hbox
          have hzz : w2.heap.size < wr.heap.size := (Array.getElem?_eq_some_iff.1 HBOX.out).1
          go_wp2_with fail
          apply wp_joinS (AfterStep wr st x.payload)
          case h =>
            go_region_with (go_at_call 22; first
              | (refine (law_step _ _ st x wr.drew (HI.out.rep.below hbd) ⟨_, _, rfl, hp.below hbd, hcx.below hbd⟩ hbb hox hfx).mono ?_; rintro e w3 ⟨out, fa, fn, ga, gn, dd, rfl, ho, hm, hdn, hb3⟩; have HA := Lib.hid (afterA ho hm hdn hb3); clear ho hm hdn hb3)
              | (refine (law_step _ _ st x (wr.alloc (.cells #[.slice none 0 0, .slice none 0 0] 35)).drew (HI.out.rep.below hbz) ⟨_, _, rfl, hp.below hbz, hcx.below hbz⟩ hbb hox hfx).mono ?_; rintro e w3 ⟨out, fa, fn, ga, gn, dd, rfl, ho, hm, hdn, hb3⟩; have kz := keepB hb3 (show (wr.alloc (.cells #[.slice none 0 0, .slice none 0 0] 35)).drew.heap[wr.heap.size]? = _ from heap_alloc_new wr _); have HA := Lib.hid (afterB ho hm hdn hb3 kz); have zc0 := cell_of_row w3 _ 0 _ _ _ kz; have zc1 := cell_of_row w3 _ 1 _ _ _ kz; have zf0 := frozen_of_row w3 _ 0 _ _ kz; have zf1 := frozen_of_row w3 _ 1 _ _ kz; simp at zc0 zc1; clear ho hm hdn hb3))
            all_goals first
              | (obtain ⟨tb, htb⟩ : ∃ tb, tb = w3.heap.size := ⟨_, rfl⟩; rw [← htb] at HA ⊢; exact ⟨tb, out, fa, fn, ga, gn, dd, rfl, HA.out⟩)
              | (obtain ⟨tb, htb⟩ : ∃ tb, tb = wr.heap.size := ⟨_, rfl⟩; rw [← htb] at HA ⊢; exact ⟨tb, out, fa, fn, ga, gn, dd, rfl, HA.out⟩)
          case hq =>
            intro tb out fa fn ga gn dd W HF
            have hst := hbb.step HF.mix
            have hlo := hst.len
            have hlst := HI.out.len
            have hfit := HI.out.fit
            have hko : (⟨out, []⟩ : Disk).ok = true := by simp [Disk.ok]; omega
            have hino : insideB out.length ((5 : Nat) : Int) 16 = true := by simp [insideB]; omega
            have hrepo : DiskRep W (.agg #[.slice fa out.length fn, .slice ga 0 gn]) ⟨out, []⟩ := ⟨_, _, rfl, HF.own1.sl, HF.own2.sl⟩
            obtain ⟨P, hPd⟩ : ∃ P, P = supPay ⟨out, []⟩ 5 := ⟨_, rfl⟩
            have hld : ∀ w', Below W.heap.size W w' → Calls Tryd.prog 15 #[.agg #[.slice fa out.length fn, .slice ga 0 gn], .int .i64 5] w' (fun e w4 => ∃ a n, e = .returned (.tuple #[.slice a P.length n, .int .i64 (supGen ⟨out, []⟩ 5), .int .i64 0]) ∧ SlRep w4 (.slice a P.length n) P ∧ Below w'.heap.size w' w4) := fun w' hw' => by
              refine (sup_Load_some _ ⟨out, []⟩ 5 _ (hrepo.below hw') hko hino hst.ne).mono ?_
              rintro e w4 ⟨v4, rfl, hv4, hb4⟩
              rw [← hPd] at hv4
              obtain ⟨a, n, rfl, _⟩ := hv4.ex
              exact ⟨a, n, rfl, hv4, hb4⟩
            have hfc := int_facts HF hbb HPV.out hPd
            have hpW := hp.below HF.bel
            have hvW := hval.below HF.bel
            have qW := keep HF.bel q0
            have HKT := Lib.hid HF.box; have HKB := Lib.hid (keepB HF.bel HBOX.out); have HHF := Lib.hid HF; have HPD := Lib.hid hPd
            have kt := HF.box
            have tc0 := cell_of_row W _ 0 _ _ _ kt
            have tc1 := cell_of_row W _ 1 _ _ _ kt
            have tf0 := frozen_of_row W _ 0 _ _ kt
            have tf1 := frozen_of_row W _ 1 _ _ kt
            simp at tc0 tc1
            clear kt hst HF hPd eA0 eA1 eA2 eA3 eA4 q0 q1 q2 ec0 ec1 ef0 ef1 hrepo hp hcx hbd hbz hlo hlst hfit hko hino hv hvs hu hox hfx hval
            go_wp2_with fail
            refine (hld _ (Below.refl _ _)).mono ?_
            rintro e w4 ⟨a4, n4, rfl, hv4, hb4⟩
            have q4 := keep hb4 qW
            have hpX := hpW.below hb4
            have hpV := hvW.below hb4
            have kt := keepB hb4 HKT.out
            have kb := keepB hb4 HKB.out
            have tc0 := cell_of_row w4 _ 0 _ _ _ kt
            have tc1 := cell_of_row w4 _ 1 _ _ _ kt
            have tf0 := frozen_of_row w4 _ 0 _ _ kt
            have tf1 := frozen_of_row w4 _ 1 _ _ kt
            simp at tc0 tc1
            have ec0 := cell_of_row w4 _ 0 _ _ _ kb
            have ec1 := cell_of_row w4 _ 1 _ _ _ kb
            have ef0 := frozen_of_row w4 _ 0 _ _ kb
            have ef1 := frozen_of_row w4 _ 1 _ _ kb
            simp at ec0 ec1
            have HKT4 := Lib.hid kt; have HKB4 := Lib.hid kb
            have hB4 : Below w.heap.size w w4 := below_step (below_step hB HHF.out.bel) hb4
            have hfin : ∀ w', Below w4.heap.size w4 w' → IntI w w2.heap.size steps content.length (.slice a4 P.length n4) (.int .i64 ((k : Int) + 1)) ((w'.setCell ⟨w2.heap.size, 0, none⟩ (.slice fa out.length fn)).setCell ⟨w2.heap.size, 1, none⟩ (.slice ga 0 gn)) := fun w' hw' =>
              ⟨k + 1, fa, fn, ga, gn, out, a4, n4, P, by omega, by go_num, rfl, HI.out.next (by omega) hpl HHF.out (below_step hb4 hw'), bytes_set (keepB hw' HKB4.out) (by intro n h; cases h) (by intro n h; cases h) (hv4.below hw'), HPD.out.symm, ((below_step hB4 hw').setCell (p := ⟨w2.heap.size, 0, none⟩) (by have := hB2.size; exact this) _).setCell (p := ⟨w2.heap.size, 1, none⟩) (by have := hB2.size; exact this) _⟩
            have HFIN := Lib.hid hfin; clear hfin kt kb hld qW hpW hvW
            have HV4 := Lib.hid hv4
            have hbe : Below w4.heap.size w4 w4 := Below.refl _ _
            by_cases hPX : P = x.payload
            · have hEX : ∀ w', Below w4.heap.size w4 w' → Calls Tryd.prog 17 #[.slice a4 P.length n4, .slice pa x.payload.length pc] w' (RetB w' (.bool true)) := fun w' hw' => bytes_eqT _ _ _ _ _ (HV4.out.below hw') (hpX.below hw') hPX
              by_cases hPV : P = val
              · have hEV : ∀ w', Below w4.heap.size w4 w' → Calls Tryd.prog 17 #[.slice a4 P.length n4, .slice la val.length lc] w' (RetB w' (.bool true)) := fun w' hw' => bytes_eqT _ _ _ _ _ (HV4.out.below hw') (hpV.below hw') hPV
                clear hPX hPV hfc hv4 hpV hpX
                cases dd
                · skip
                  go_wp2_with fail
                  refine (hEV _ hbe).mono ?_
                  rintro e w5 ⟨rfl, hb5⟩
                  have hbe := below_step hbe hb5
                  have q5 := keep hbe q4
                  have kt := keepB hbe HKT4.out
                  have kb := keepB hbe HKB4.out
                  have tc0 := cell_of_row w5 _ 0 _ _ _ kt
                  have tc1 := cell_of_row w5 _ 1 _ _ _ kt
                  have tf0 := frozen_of_row w5 _ 0 _ _ kt
                  have tf1 := frozen_of_row w5 _ 1 _ _ kt
                  simp at tc0 tc1
                  have ec0 := cell_of_row w5 _ 0 _ _ _ kb
                  have ec1 := cell_of_row w5 _ 1 _ _ _ kb
                  have ef0 := frozen_of_row w5 _ 0 _ _ kb
                  have ef1 := frozen_of_row w5 _ 1 _ _ kb
                  simp at ec0 ec1
                  clear kt kb hb5
                  go_wp2_with fail
                  go_roundw
                  case rel => exact HFIN.out _ hbe
                  case measure => simp [intOf]; omega
                · skip
                  go_wp2_with fail
                  refine (hEX _ hbe).mono ?_
                  rintro e w5 ⟨rfl, hb5⟩
                  have hbe := below_step hbe hb5
                  have q5 := keep hbe q4
                  have kt := keepB hbe HKT4.out
                  have kb := keepB hbe HKB4.out
                  have tc0 := cell_of_row w5 _ 0 _ _ _ kt
                  have tc1 := cell_of_row w5 _ 1 _ _ _ kt
                  have tf0 := frozen_of_row w5 _ 0 _ _ kt
                  have tf1 := frozen_of_row w5 _ 1 _ _ kt
                  simp at tc0 tc1
                  have ec0 := cell_of_row w5 _ 0 _ _ _ kb
                  have ec1 := cell_of_row w5 _ 1 _ _ _ kb
                  have ef0 := frozen_of_row w5 _ 0 _ _ kb
                  have ef1 := frozen_of_row w5 _ 1 _ _ kb
                  simp at ec0 ec1
                  clear kt kb hb5
                  go_wp2_with fail
                  refine (hEV _ hbe).mono ?_
                  rintro e w6 ⟨rfl, hb5⟩
                  have hbe := below_step hbe hb5
                  have q5 := keep hbe q4
                  have kt := keepB hbe HKT4.out
                  have kb := keepB hbe HKB4.out
                  have tc0 := cell_of_row w6 _ 0 _ _ _ kt
                  have tc1 := cell_of_row w6 _ 1 _ _ _ kt
                  have tf0 := frozen_of_row w6 _ 0 _ _ kt
                  have tf1 := frozen_of_row w6 _ 1 _ _ kt
                  simp at tc0 tc1
                  have ec0 := cell_of_row w6 _ 0 _ _ _ kb
                  have ec1 := cell_of_row w6 _ 1 _ _ _ kb
                  have ef0 := frozen_of_row w6 _ 0 _ _ kb
                  have ef1 := frozen_of_row w6 _ 1 _ _ kb
                  simp at ec0 ec1
                  clear kt kb hb5
                  go_wp2_with fail
                  go_roundw
                  case rel => exact HFIN.out _ hbe
                  case measure => simp [intOf]; omega
              · have hEV : ∀ w', Below w4.heap.size w4 w' → Calls Tryd.prog 17 #[.slice a4 P.length n4, .slice la val.length lc] w' (RetB w' (.bool false)) := fun w' hw' => bytes_eqF _ _ _ _ _ (HV4.out.below hw') (hpV.below hw') hPV
                clear hPX hPV hfc hv4 hpV hpX
                cases dd
                · skip
                  go_wp2_with fail
                  refine (hEV _ hbe).mono ?_
                  rintro e w5 ⟨rfl, hb5⟩
                  have hbe := below_step hbe hb5
                  have q5 := keep hbe q4
                  have kt := keepB hbe HKT4.out
                  have kb := keepB hbe HKB4.out
                  have tc0 := cell_of_row w5 _ 0 _ _ _ kt
                  have tc1 := cell_of_row w5 _ 1 _ _ _ kt
                  have tf0 := frozen_of_row w5 _ 0 _ _ kt
                  have tf1 := frozen_of_row w5 _ 1 _ _ kt
                  simp at tc0 tc1
                  have ec0 := cell_of_row w5 _ 0 _ _ _ kb
                  have ec1 := cell_of_row w5 _ 1 _ _ _ kb
                  have ef0 := frozen_of_row w5 _ 0 _ _ kb
                  have ef1 := frozen_of_row w5 _ 1 _ _ kb
                  simp at ec0 ec1
                  clear kt kb hb5
                  go_wp2_with fail
                  refine (hEX _ hbe).mono ?_
                  rintro e w6 ⟨rfl, hb5⟩
                  have hbe := below_step hbe hb5
                  have q5 := keep hbe q4
                  have kt := keepB hbe HKT4.out
                  have kb := keepB hbe HKB4.out
                  have tc0 := cell_of_row w6 _ 0 _ _ _ kt
                  have tc1 := cell_of_row w6 _ 1 _ _ _ kt
                  have tf0 := frozen_of_row w6 _ 0 _ _ kt
                  have tf1 := frozen_of_row w6 _ 1 _ _ kt
                  simp at tc0 tc1
                  have ec0 := cell_of_row w6 _ 0 _ _ _ kb
                  have ec1 := cell_of_row w6 _ 1 _ _ _ kb
                  have ef0 := frozen_of_row w6 _ 0 _ _ kb
                  have ef1 := frozen_of_row w6 _ 1 _ _ kb
                  simp at ec0 ec1
                  clear kt kb hb5
                  go_wp2_with fail
                  go_roundw
                  case rel => exact HFIN.out _ hbe
                  case measure => simp [intOf]; omega
                · skip
                  go_wp2_with fail
                  refine (hEX _ hbe).mono ?_
                  rintro e w5 ⟨rfl, hb5⟩
                  have hbe := below_step hbe hb5
                  have q5 := keep hbe q4
                  have kt := keepB hbe HKT4.out
                  have kb := keepB hbe HKB4.out
                  have tc0 := cell_of_row w5 _ 0 _ _ _ kt
                  have tc1 := cell_of_row w5 _ 1 _ _ _ kt
                  have tf0 := frozen_of_row w5 _ 0 _ _ kt
                  have tf1 := frozen_of_row w5 _ 1 _ _ kt
                  simp at tc0 tc1
                  have ec0 := cell_of_row w5 _ 0 _ _ _ kb
                  have ec1 := cell_of_row w5 _ 1 _ _ _ kb
                  have ef0 := frozen_of_row w5 _ 0 _ _ kb
                  have ef1 := frozen_of_row w5 _ 1 _ _ kb
                  simp at ec0 ec1
                  clear kt kb hb5
                  go_wp2_with fail
                  refine (hEV _ hbe).mono ?_
                  rintro e w6 ⟨rfl, hb5⟩
                  have hbe := below_step hbe hb5
                  have q5 := keep hbe q4
                  have kt := keepB hbe HKT4.out
                  have kb := keepB hbe HKB4.out
                  have tc0 := cell_of_row w6 _ 0 _ _ _ kt
                  have tc1 := cell_of_row w6 _ 1 _ _ _ kt
                  have tf0 := frozen_of_row w6 _ 0 _ _ kt
                  have tf1 := frozen_of_row w6 _ 1 _ _ kt
                  simp at tc0 tc1
                  have ec0 := cell_of_row w6 _ 0 _ _ _ kb
                  have ec1 := cell_of_row w6 _ 1 _ _ _ kb
                  have ef0 := frozen_of_row w6 _ 0 _ _ kb
                  have ef1 := frozen_of_row w6 _ 1 _ _ kb
                  simp at ec0 ec1
                  clear kt kb hb5
                  go_wp2_with fail
                  refine (hEX _ hbe).mono ?_
                  rintro e w7 ⟨rfl, hb5⟩
                  have hbe := below_step hbe hb5
                  have q5 := keep hbe q4
                  have kt := keepB hbe HKT4.out
                  have kb := keepB hbe HKB4.out
                  have tc0 := cell_of_row w7 _ 0 _ _ _ kt
                  have tc1 := cell_of_row w7 _ 1 _ _ _ kt
                  have tf0 := frozen_of_row w7 _ 0 _ _ kt
                  have tf1 := frozen_of_row w7 _ 1 _ _ kt
                  simp at tc0 tc1
                  have ec0 := cell_of_row w7 _ 0 _ _ _ kb
                  have ec1 := cell_of_row w7 _ 1 _ _ _ kb
                  have ef0 := frozen_of_row w7 _ 0 _ _ kb
                  have ef1 := frozen_of_row w7 _ 1 _ _ kb
                  simp at ec0 ec1
                  clear kt kb hb5
                  go_wp2_with fail
                  go_roundw
                  case rel => exact HFIN.out _ hbe
                  case measure => simp [intOf]; omega
            · obtain rfl : dd = false := by
                cases dd with
                | false => rfl
                | true => exact absurd (hfc.1 rfl) hPX
              have hPV : P = val := Classical.byContradiction fun h => hPX (hfc.2 h)
              have hEX : ∀ w', Below w4.heap.size w4 w' → Calls Tryd.prog 17 #[.slice a4 P.length n4, .slice pa x.payload.length pc] w' (RetB w' (.bool false)) := fun w' hw' => bytes_eqF _ _ _ _ _ (HV4.out.below hw') (hpX.below hw') hPX
              have hEV : ∀ w', Below w4.heap.size w4 w' → Calls Tryd.prog 17 #[.slice a4 P.length n4, .slice la val.length lc] w' (RetB w' (.bool true)) := fun w' hw' => bytes_eqT _ _ _ _ _ (HV4.out.below hw') (hpV.below hw') hPV
              clear hPX hPV hfc hv4 hpV hpX
              go_wp2_with fail
              refine (hEV _ hbe).mono ?_
              rintro e w5 ⟨rfl, hb5⟩
              have hbe := below_step hbe hb5
              have q5 := keep hbe q4
              have kt := keepB hbe HKT4.out
              have kb := keepB hbe HKB4.out
              have tc0 := cell_of_row w5 _ 0 _ _ _ kt
              have tc1 := cell_of_row w5 _ 1 _ _ _ kt
              have tf0 := frozen_of_row w5 _ 0 _ _ kt
              have tf1 := frozen_of_row w5 _ 1 _ _ kt
              simp at tc0 tc1
              have ec0 := cell_of_row w5 _ 0 _ _ _ kb
              have ec1 := cell_of_row w5 _ 1 _ _ _ kb
              have ef0 := frozen_of_row w5 _ 0 _ _ kb
              have ef1 := frozen_of_row w5 _ 1 _ _ kb
              simp at ec0 ec1
              clear kt kb hb5
              go_wp2_with fail
              go_roundw
              case rel => exact HFIN.out _ hbe
              case measure => simp [intOf]; omega
        · obtain rfl : k = steps.length := by omega
          go_wp2_with (first
            | (go_at_call 10; refine (awake_ _).mono ?_; rintro e w4 ⟨rfl, hb4⟩)
            | fail)
          go_ret
          exact ⟨rfl, below_step hB hb4⟩
  · have t1 : (30 : Int) < content.length := by omega
    go_enter Tryd.func6, Tryd.ntmps6
    go_wp2_with (first
      | (go_at_call 10; refine (awake_ _).mono ?_; rintro e w4 ⟨rfl, hb4⟩)
      | fail)
    go_ret
    exact ⟨rfl, hb4⟩
end Go.Proofs.YtnddgpkljpjjbaaDoor
