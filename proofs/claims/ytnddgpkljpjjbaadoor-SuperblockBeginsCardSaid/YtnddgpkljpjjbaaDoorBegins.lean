/- law12.SuperblockBegins: the walk of the law. -/
import Derived.Test.YtnddgpkljpjjbaaDoorLaws0
import Derived.Test.YtnddgpkljpjjbaaDoorBegP
namespace Go.Proofs.YtnddgpkljpjjbaaDoor
open Go.RowKit
set_option linter.unusedVariables false
set_option linter.unusedSimpArgs false
theorem bytes_eqYes (u v : Value) (xs ys : List UInt8) (w : World) (hu : SlRep w u xs) (hv : SlRep w v ys) (h : xs = ys) : Calls Tryd.prog 17 #[u, v] w (RetB w (.bool true)) := by
  have := bytes_Equal u v xs ys w hu hv
  rwa [decide_eq_true h] at this
theorem bytes_eqNo (u v : Value) (xs ys : List UInt8) (w : World) (hu : SlRep w u xs) (hv : SlRep w v ys) (h : xs ≠ ys) : Calls Tryd.prog 17 #[u, v] w (RetB w (.bool false)) := by
  have := bytes_Equal u v xs ys w hu hv
  rwa [decide_eq_false h] at this
theorem steps1 {w : World} {b : Nat} {p c : Value} {s : StepD} (hb : b = w.heap.size) (hp : SlRep w p s.payload) (hc : SlRep w c s.choices) : SlRep (w.alloc (.cells #[p, .int .u8 s.after.toNat, c] 54)) (.slice (some ⟨b, 0, none⟩) 1 1) ([s] : List StepD) := by
  subst hb
  refine SlRep.two (xs := [s]) [[p, .int .u8 s.after.toNat, c]] rfl ?_ rfl (by simp)
  intro i z d hx hd
  match i, hx, hd with
  | 0, hx, hd => cases hx; cases hd; exact ⟨p, c, rfl, hp.below (below_alloc w _), hc.below (below_alloc w _)⟩
  | i + 1, hx, hd => simp at hd
theorem small1 (s : StepD) : smallB [s] = stepFits s := by simp [smallB]
theorem load30 {o : List Sec} (hl : o.length = 30) : loadErr ⟨o, []⟩ 5 = if supGen ⟨o, []⟩ 5 = 0 then 9 else 0 := by
  have h1 : (⟨o, []⟩ : Disk).ok = true := ok_bare hl
  have h2 : insideB o.length 5 16 = true := by rw [hl]; decide
  rw [loadErr, h1, h2]; rfl
theorem fmt_ne {pl : List UInt8} (hp : pl.length ≤ 31) : fmtRes 5 pl ≠ [] ∧ (fmtRes 5 pl).length = 4 := by
  have he : fmtErr 5 pl = 0 := by rw [fmtErr, if_neg (by omega), if_neg (by omega)]
  rw [fmtRes, if_pos he]; exact ⟨by simp [fmtOps], rfl⟩
theorem fmt_roomT {pl : List UInt8} (hp : pl.length ≤ 31) (n : Nat) : ([] : List Cached).length + room ((fmtRes 5 pl).take n) ≤ 1000000 := by
  have he : fmtErr 5 pl = 0 := by rw [fmtErr, if_neg (by omega), if_neg (by omega)]
  rw [fmtRes, if_pos he, fmtOps]
  match n with
  | 0 => simp [room]
  | 1 => simp [room]
  | 2 => simp [room]
  | 3 => simp [room, copySecs_len]
  | n + 4 => simp [room, copySecs_len]
set_option maxRecDepth 100000 in
set_option maxHeartbeats 8000000 in
theorem law_begins (u : Value) (old : List UInt8) (v : Value) (pl : List UInt8) (z : Value) (s : StepD) (w : World) (hu : SlRep w u old) (hv : SlRep w v pl) (hz : ∃ a c, z = .agg #[a, .int .u8 s.after.toNat, c] ∧ SlRep w a s.payload ∧ SlRep w c s.choices) (hso : StepOk s) :
    Calls Tryd.prog 9 #[u, v, z] w (RetB w (.bool true)) := by
  obtain ⟨ua, uc, rfl, _⟩ := hu.ex
  obtain ⟨va, vc, rfl, _⟩ := hv.ex
  obtain ⟨p, c, rfl, hp, hc⟩ := hz
  obtain ⟨pa, pc, rfl, _⟩ := hp.ex
  obtain ⟨xa, xc, rfl, _⟩ := hc.ex
  by_cases ho : old.length ≤ 31
  · have t1 : ¬ (31 : Int) < old.length := by omega
    by_cases hl : pl.length ≤ 31
    · have t2 : ¬ (31 : Int) < pl.length := by omega
      have hsm := small1 s
      have hS0 : SlRep ((w.alloc (.cells #[.slice pa s.payload.length pc, .int .u8 s.after.toNat, .slice xa s.choices.length xc] 54)).alloc (.cells #[.slice pa s.payload.length pc, .int .u8 s.after.toNat, .slice xa s.choices.length xc] 54)) (.slice (some ⟨w.heap.size + 1, 0, none⟩) 1 1) ([s] : List StepD) := steps1 (by simp) (hp.below (below_alloc w _)) (hc.below (below_alloc w _))
      have HS0 := Lib.hid hS0; clear hS0
      cases hs : stepFits s with
      | false =>
        rw [hs] at hsm
        have HSM := Lib.hid hsm; clear hs hsm
        go_enter Tryd.func9, Tryd.ntmps9
        go_wp2_with fail
        refine (law_small _ [s] _ HS0.out).mono ?_
        rw [HSM.out]
        rintro e w1 ⟨rfl, hb1⟩
        go_wp2_with fail
        refine (awake_ _).mono ?_
        rintro e w4 ⟨rfl, hb4⟩
        go_wp2_with fail
        go_ret
        exact ⟨rfl, below_step (below_step (below_alloc2 w _ _) hb1) hb4⟩
      | true =>
        rw [hs] at hsm
        have HSM := Lib.hid hsm
        have hfs := hs
        simp only [stepFits, Bool.and_eq_true, decide_eq_true_eq] at hfs
        obtain ⟨hxl, hcl⟩ := hfs
        have HFS := Lib.hid hs; clear hs hsm
        obtain ⟨hg1, hp1, ht1⟩ := begun_gen [] old ho
        have hl1 : (begun [] old).length = 30 := begun_len [] old
        have hbase : Base (begun [] old) 5 s.payload := ⟨by omega, by omega, by rw [hg1]; decide, by omega, hxl⟩
        have hstp : ∀ out, Mixed (begun [] old) 5 s.payload out → Stp old s.payload out := fun out hm => Stp.of ho hm
        have he : Hid (fmtErr 5 pl = 0) := Lib.hid (by rw [fmtErr, if_neg (by omega), if_neg (by omega)])
        have HBA := Lib.hid hbase; have HST := Lib.hid hstp; have HL1 := Lib.hid hl1; clear hg1 hp1 ht1 hl1 hbase hstp
        go_enter Tryd.func9, Tryd.ntmps9
        go_wp2_with fail
        refine (law_small _ [s] _ HS0.out).mono ?_
        rw [HSM.out]
        rintro e w1 ⟨rfl, hb1⟩
        have k5 := keepB hb1 (keepB (below_alloc _ (.cells #[.slice pa s.payload.length pc, .int .u8 s.after.toNat, .slice xa s.choices.length xc] 54)) (heap_alloc_new w (.cells #[.slice pa s.payload.length pc, .int .u8 s.after.toNat, .slice xa s.choices.length xc] 54)))
        have hB1 : Below w.heap.size w w1 := below_step (below_alloc2 w _ _) hb1
        have K5 := Lib.hid k5; clear k5 hb1 HS0
        go_wp2_with fail
        refine (law_begin _ _ [] old _ (SlRep.nil _) (hu.below hB1) (by simp) ho).mono ?_
        rintro e w2 ⟨sa, sn, ca, cn, rfl, ho2, hb2⟩
        generalize begun [] old = out0 at HBA HST HL1 ho2 ⊢
        have kba := below_alloc w2 (.cells #[.slice sa out0.length sn, .slice ca 0 cn] 35)
        have k7 := heap_alloc_new w2 (.cells #[.slice sa out0.length sn, .slice ca 0 cn] 35)
        have k5 := keepB kba (keepB hb2 K5.out)
        have hB2 : Below w.heap.size w w2 := below_step hB1 hb2
        have hrep : DiskRep (w2.alloc (.cells #[.slice sa out0.length sn, .slice ca 0 cn] 35)) (.agg #[.slice sa out0.length sn, .slice ca 0 cn]) ⟨out0, []⟩ := ⟨_, _, rfl, (ho2.1.below kba).sl, (ho2.2.below kba).sl⟩
        have hB3 : Below w.heap.size w (w2.alloc (.cells #[.slice sa out0.length sn, .slice ca 0 cn] 35)) := below_step hB2 kba
        have hz2 : w.heap.size < w2.heap.size := (Array.getElem?_eq_some_iff.1 (keepB hb2 K5.out)).1
        have k52 := keepB hb2 K5.out
        have sc0 := cell_of_row w2 _ 0 _ _ _ k52
        have sc1 := cell_of_row w2 _ 1 _ _ _ k52
        have sc2 := cell_of_row w2 _ 2 _ _ _ k52
        have sf0 := frozen_of_row w2 _ 0 _ _ k52
        have sf1 := frozen_of_row w2 _ 1 _ _ k52
        have sf2 := frozen_of_row w2 _ 2 _ _ k52
        simp at sc0 sc1 sc2
        have eS0 := keep kba sc0
        have eS1 := keep kba sc1
        have eS2 := keep kba sc2
        clear sc0 sc1 sc2 sf0 sf1 sf2 k52
        go_wp2_with fail
        generalize w2.alloc (.cells #[.slice sa out0.length sn, .slice ca 0 cn] 35) = w3 at *
        clear eS0 eS1 eS2
        have dc0 := cell_of_row w3 _ 0 _ _ _ k7
        have dc1 := cell_of_row w3 _ 1 _ _ _ k7
        have df0 := frozen_of_row w3 _ 0 _ _ k7
        have df1 := frozen_of_row w3 _ 1 _ _ k7
        simp at dc0 dc1
        have sc0 := cell_of_row w3 _ 0 _ _ _ k5
        have sc1 := cell_of_row w3 _ 1 _ _ _ k5
        have sc2 := cell_of_row w3 _ 2 _ _ _ k5
        have sf0 := frozen_of_row w3 _ 0 _ _ k5
        have sf1 := frozen_of_row w3 _ 1 _ _ k5
        have sf2 := frozen_of_row w3 _ 2 _ _ k5
        simp at sc0 sc1 sc2
        have K7 := Lib.hid k7; have K53 := Lib.hid k5; clear k5 k7 ho2 kba hb2
        refine (law_step _ _ out0 s w3 hrep ⟨_, _, rfl, hp.below hB3, hc.below hB3⟩ HBA.out hso HFS.out).mono ?_
        rintro e w4 ⟨out, fa, fn, ga, gn, dn, rfl, ho4, hm4, hd4, hb4⟩
        have HSP := Lib.hid (HST.out out hm4)
        have k7 := keepB hb4 K7.out
        have k5 := keepB hb4 K53.out
        have hz3 : w2.heap.size < w3.heap.size := (Array.getElem?_eq_some_iff.1 K7.out).1
        have hB4 : Below w.heap.size w w4 := below_step hB3 hb4
        have dc0 := cell_of_row w4 _ 0 _ _ _ k7
        have dc1 := cell_of_row w4 _ 1 _ _ _ k7
        have df0 := frozen_of_row w4 _ 0 _ _ k7
        have df1 := frozen_of_row w4 _ 1 _ _ k7
        simp at dc0 dc1
        have sc0 := cell_of_row w4 _ 0 _ _ _ k5
        have sc1 := cell_of_row w4 _ 1 _ _ _ k5
        have sc2 := cell_of_row w4 _ 2 _ _ _ k5
        have sf0 := frozen_of_row w4 _ 0 _ _ k5
        have sf1 := frozen_of_row w4 _ 1 _ _ k5
        have sf2 := frozen_of_row w4 _ 2 _ _ k5
        simp at sc0 sc1 sc2
        have j7 := heap_two1 (v := .slice ga 0 gn) (heap_two0 (v := .slice fa out.length fn) k7)
        have j5 := (block_set (w := w4.setCell ⟨w2.heap.size, 0, none⟩ (.slice fa out.length fn)) (i := 1) (v := .slice ga 0 gn) (show w.heap.size ≠ w2.heap.size by omega)).trans ((block_set (w := w4) (i := 0) (v := .slice fa out.length fn) (show w.heap.size ≠ w2.heap.size by omega)).trans k5)
        have hB5 := (hB4.setCell (p := ⟨w2.heap.size, 0, none⟩) (by simp; omega) (.slice fa out.length fn)).setCell (p := ⟨w2.heap.size, 1, none⟩) (by simp; omega) (.slice ga 0 gn)
        have ho51 : Own w3.heap.size 57 _ _ _ := ho4.1.sets (B' := w3.heap.size) (a := .slice fa out.length fn) (b := .slice ga 0 gn) hz3 (Nat.le_refl _)
        have ho52 : Own w3.heap.size 109 _ _ _ := ho4.2.sets (B' := w3.heap.size) (a := .slice fa out.length fn) (b := .slice ga 0 gn) hz3 (Nat.le_refl _)
        clear k5 k7 ho4 hm4 hd4 hb4 hrep K7 K53
        go_wp2_with fail
        generalize (w4.setCell ⟨w2.heap.size, 0, none⟩ (.slice fa out.length fn)).setCell ⟨w2.heap.size, 1, none⟩ (.slice ga 0 gn) = w5 at *
        refine (sup_Format 5 _ pl _ (hv.below hB5) (by omega)).mono ?_
        rintro e w6 ⟨v6, rfl, hv6, hb6⟩
        obtain ⟨a6, n6, rfl⟩ := fmt_four hl hv6
        rw [he.out]
        have K7 := Lib.hid (keepB hb6 j7); have K5 := Lib.hid (keepB hb6 j5)
        have hrep : DiskRep w6 (.agg #[.slice fa out.length fn, .slice ga 0 gn]) ⟨out, []⟩ := ⟨_, _, rfl, (ho51.below hb6).sl, (ho52.below hb6).sl⟩
        have hB6 : Below w.heap.size w w6 := below_step hB5 hb6
        obtain ⟨hn0, hn1⟩ := fmt_ne hl
        have HN0 := Lib.hid hn0; have HN1 := Lib.hid hn1
        clear hn0 hn1 j5 j7 ho51 ho52 hb6 dc0 dc1 df0 df1 sc0 sc1 sc2 sf0 sf1 sf2
        go_wp2_with fail
        go_loopw [13] (fun i wr => ∃ n : Nat, n ≤ 5 ∧ i = .int .i64 n ∧ Below w6.heap.size w6 wr) (fun i _ => 5 - (intOf i).toNat)
        case atStart => exact ⟨0, by omega, rfl, Below.refl _ _⟩
        case round =>
          obtain ⟨n, hn, rfl, hbn⟩ := hrel
          by_cases hlt : n ≤ 4
          · have t4 : (n : Int) ≤ 4 := by omega
            obtain ⟨d1, hd1, hr1, hk1, hc1, hall⟩ := fmt_cut HSP.out ho hxl hl n hlt
            have HR1 := Lib.hid hr1; have HD1 := Lib.hid hd1; have HAL := Lib.hid hall; clear hr1 hd1 hall
            have HBN := Lib.hid hbn
            have kt := keepB hbn K7.out
            have ks := keepB hbn K5.out
            have tc0 := cell_of_row wr _ 0 _ _ _ kt
            have tc1 := cell_of_row wr _ 1 _ _ _ kt
            have tf0 := frozen_of_row wr _ 0 _ _ kt
            have tf1 := frozen_of_row wr _ 1 _ _ kt
            simp at tc0 tc1
            have sc0 := cell_of_row wr _ 0 _ _ _ ks
            have sc1 := cell_of_row wr _ 1 _ _ _ ks
            have sc2 := cell_of_row wr _ 2 _ _ _ ks
            have sf0 := frozen_of_row wr _ 0 _ _ ks
            have sf1 := frozen_of_row wr _ 1 _ _ ks
            have sf2 := frozen_of_row wr _ 2 _ _ ks
            simp at sc0 sc1 sc2
            have HKT := Lib.hid kt; have HKS := Lib.hid ks; clear kt ks
            go_wp2_with fail
            refine (disk_Interrupt wr ⟨out, []⟩ d1 _ _ _ (fmtRes 5 pl) n s.choices (hrep.below hbn) (hv6.below hbn) (hc.below (below_step hB6 hbn)) hso (by omega) (ok_bare HSP.out.len) (by rw [HN1.out]; exact hlt) HN0.out (fmt_roomT hl n) (fun o ho => fmt_at hl o (List.mem_of_mem_take ho)) HR1.out HD1.out hk1 hc1).mono ?_
            rintro e w7 ⟨o', a7, n7, lv, rfl, hcr, ho7, hb7⟩
            have hF := HAL.out o' hcr
            have kba := below_alloc w7 (.cells #[.slice a7 o'.length n7, .slice none 0 0] 35)
            have kn := heap_alloc_new w7 (.cells #[.slice a7 o'.length n7, .slice none 0 0] 35)
            have kt := keepB kba (keepB hb7 HKT.out)
            have ks := keepB kba (keepB hb7 HKS.out)
            have hrep7 : DiskRep (w7.alloc (.cells #[.slice a7 o'.length n7, .slice none 0 0] 35)) (.agg #[.slice a7 o'.length n7, .slice none 0 0]) ⟨o', []⟩ := ⟨_, _, rfl, (ho7.1.below kba).sl, SlRep.nil _⟩
            have hb7' := below_step hb7 kba
            have HF := Lib.hid hF; clear hF hcr ho7 hb7 kba
            go_wp2_with fail
            generalize w7.alloc (.cells #[.slice a7 o'.length n7, .slice none 0 0] 35) = w7' at *
            clear tc0 tc1 tf0 tf1 sc0 sc1 sc2 sf0 sf1 sf2
            have nc0 := cell_of_row w7' _ 0 _ _ _ kn
            have nc1 := cell_of_row w7' _ 1 _ _ _ kn
            have nf0 := frozen_of_row w7' _ 0 _ _ kn
            have nf1 := frozen_of_row w7' _ 1 _ _ kn
            simp at nc0 nc1
            have tc0 := cell_of_row w7' _ 0 _ _ _ kt
            have tc1 := cell_of_row w7' _ 1 _ _ _ kt
            have tf0 := frozen_of_row w7' _ 0 _ _ kt
            have tf1 := frozen_of_row w7' _ 1 _ _ kt
            simp at tc0 tc1
            have sc0 := cell_of_row w7' _ 0 _ _ _ ks
            have sc1 := cell_of_row w7' _ 1 _ _ _ ks
            have sc2 := cell_of_row w7' _ 2 _ _ _ ks
            have sf0 := frozen_of_row w7' _ 0 _ _ ks
            have sf1 := frozen_of_row w7' _ 1 _ _ ks
            have sf2 := frozen_of_row w7' _ 2 _ _ ks
            simp at sc0 sc1 sc2
            clear kn
            go_wp2_with fail
            refine (sup_LoadA _ ⟨o', []⟩ 5 _ hrep7).mono ?_
            rintro e w8 ⟨v8, rfl, hv8, hb8⟩
            obtain ⟨a8, n8, rfl, _⟩ := hv8.ex
            have HKT8 := Lib.hid (keepB hb8 kt); have HKS8 := Lib.hid (keepB hb8 ks)
            have hb68 := below_step (below_step hbn hb7') hb8
            have HBN := Lib.hid hb68
            have hB8 : Below w.heap.size w w8 := below_step hB6 hb68
            have hLE := load30 HF.out.len
            obtain ⟨P, hP⟩ : ∃ P, P = loadPay ⟨o', []⟩ 5 := ⟨_, rfl⟩
            rw [← hP] at hv8 ⊢
            have HV8 := Lib.hid hv8
            have HU8 := Lib.hid (hu.below hB8); have HVV8 := Lib.hid (hv.below hB8); have HP8 := Lib.hid (hp.below hB8)
            have ks8 := HKS8.out; have kt8 := HKT8.out
            clear tc0 tc1 tf0 tf1 sc0 sc1 sc2 sf0 sf1 sf2 nc0 nc1 nf0 nf1
            have tc0 := cell_of_row w8 _ 0 _ _ _ kt8
            have tc1 := cell_of_row w8 _ 1 _ _ _ kt8
            have tf0 := frozen_of_row w8 _ 0 _ _ kt8
            have tf1 := frozen_of_row w8 _ 1 _ _ kt8
            simp at tc0 tc1
            have sc0 := cell_of_row w8 _ 0 _ _ _ ks8
            have sc1 := cell_of_row w8 _ 1 _ _ _ ks8
            have sc2 := cell_of_row w8 _ 2 _ _ _ ks8
            have sf0 := frozen_of_row w8 _ 0 _ _ ks8
            have sf1 := frozen_of_row w8 _ 1 _ _ ks8
            have sf2 := frozen_of_row w8 _ 2 _ _ ks8
            simp at sc0 sc1 sc2
            have hbe : Below w8.heap.size w8 w8 := Below.refl _ _
            clear kt ks ks8 kt8 hb8 hb7' hb68 hv8 hrep7 hbn
            have hY1 : P = pl → ∀ w', Below w8.heap.size w8 w' → Calls Tryd.prog 17 #[.slice a8 P.length n8, .slice va pl.length vc] w' (RetB w' (.bool true)) := fun h w' hw' => bytes_eqYes _ _ _ _ _ (HV8.out.below hw') (HVV8.out.below hw') h
            have hN1 : P ≠ pl → ∀ w', Below w8.heap.size w8 w' → Calls Tryd.prog 17 #[.slice a8 P.length n8, .slice va pl.length vc] w' (RetB w' (.bool false)) := fun h w' hw' => bytes_eqNo _ _ _ _ _ (HV8.out.below hw') (HVV8.out.below hw') h
            have hY2 : P = old → ∀ w', Below w8.heap.size w8 w' → Calls Tryd.prog 17 #[.slice a8 P.length n8, .slice ua old.length uc] w' (RetB w' (.bool true)) := fun h w' hw' => bytes_eqYes _ _ _ _ _ (HV8.out.below hw') (HU8.out.below hw') h
            have hN2 : P ≠ old → ∀ w', Below w8.heap.size w8 w' → Calls Tryd.prog 17 #[.slice a8 P.length n8, .slice ua old.length uc] w' (RetB w' (.bool false)) := fun h w' hw' => bytes_eqNo _ _ _ _ _ (HV8.out.below hw') (HU8.out.below hw') h
            have hY3 : P = s.payload → ∀ w', Below w8.heap.size w8 w' → Calls Tryd.prog 17 #[.slice a8 P.length n8, .slice pa s.payload.length pc] w' (RetB w' (.bool true)) := fun h w' hw' => bytes_eqYes _ _ _ _ _ (HV8.out.below hw') (HP8.out.below hw') h
            have hN3 : P ≠ s.payload → ∀ w', Below w8.heap.size w8 w' → Calls Tryd.prog 17 #[.slice a8 P.length n8, .slice pa s.payload.length pc] w' (RetB w' (.bool false)) := fun h w' hw' => bytes_eqNo _ _ _ _ _ (HV8.out.below hw') (HP8.out.below hw') h
            have HY1 := Lib.hid hY1; have HN1 := Lib.hid hN1; have HY2 := Lib.hid hY2; have HN2 := Lib.hid hN2; have HY3 := Lib.hid hY3; have HN3 := Lib.hid hN3
            clear hY1 hN1 hY2 hN2 hY3 hN3
            by_cases hG : supGen ⟨o', []⟩ 5 = 0
            · rw [if_pos hG] at hLE
              have hn4 : n ≠ 4 := fun h => HF.out.done h hG
              have g4 : ((n : Int) == 4) = false := by rw [beq_eq_false_iff_ne]; omega
              rw [hLE]
              clear hLE hG hP
              by_cases h1 : P = pl
              · have hE1 := HY1.out h1
                clear h1
                go_wp2_with fail
                refine (hE1 _ hbe).mono ?_
                rintro e w9 ⟨rfl, hb9⟩
                have hbe := below_step hbe hb9
                have kt := keepB hbe HKT8.out
                have ks := keepB hbe HKS8.out
                have tc0 := cell_of_row w9 _ 0 _ _ _ kt
                have tc1 := cell_of_row w9 _ 1 _ _ _ kt
                have tf0 := frozen_of_row w9 _ 0 _ _ kt
                have tf1 := frozen_of_row w9 _ 1 _ _ kt
                simp at tc0 tc1
                have sc0 := cell_of_row w9 _ 0 _ _ _ ks
                have sc1 := cell_of_row w9 _ 1 _ _ _ ks
                have sc2 := cell_of_row w9 _ 2 _ _ _ ks
                have sf0 := frozen_of_row w9 _ 0 _ _ ks
                have sf1 := frozen_of_row w9 _ 1 _ _ ks
                have sf2 := frozen_of_row w9 _ 2 _ _ ks
                simp at sc0 sc1 sc2
                clear kt ks hb9
                go_wp2_with fail
                go_roundw
                case rel => exact ⟨n + 1, by omega, by go_num, below_step HBN.out hbe⟩
                case measure => simp [intOf]; omega
              · have hE1 := HN1.out h1
                clear h1
                by_cases hn2 : n < 2
                · have t2' : (n : Int) < 2 := by omega
                  by_cases h2 : P = old
                  · have hE2 := HY2.out h2
                    clear h2
                    go_wp2_with fail
                    refine (hE1 _ hbe).mono ?_
                    rintro e w9 ⟨rfl, hb9⟩
                    have hbe := below_step hbe hb9
                    have kt := keepB hbe HKT8.out
                    have ks := keepB hbe HKS8.out
                    have tc0 := cell_of_row w9 _ 0 _ _ _ kt
                    have tc1 := cell_of_row w9 _ 1 _ _ _ kt
                    have tf0 := frozen_of_row w9 _ 0 _ _ kt
                    have tf1 := frozen_of_row w9 _ 1 _ _ kt
                    simp at tc0 tc1
                    have sc0 := cell_of_row w9 _ 0 _ _ _ ks
                    have sc1 := cell_of_row w9 _ 1 _ _ _ ks
                    have sc2 := cell_of_row w9 _ 2 _ _ _ ks
                    have sf0 := frozen_of_row w9 _ 0 _ _ ks
                    have sf1 := frozen_of_row w9 _ 1 _ _ ks
                    have sf2 := frozen_of_row w9 _ 2 _ _ ks
                    simp at sc0 sc1 sc2
                    clear kt ks hb9
                    go_wp2_with fail
                    refine (hE2 _ hbe).mono ?_
                    rintro e w10 ⟨rfl, hb9⟩
                    have hbe := below_step hbe hb9
                    have kt := keepB hbe HKT8.out
                    have ks := keepB hbe HKS8.out
                    have tc0 := cell_of_row w10 _ 0 _ _ _ kt
                    have tc1 := cell_of_row w10 _ 1 _ _ _ kt
                    have tf0 := frozen_of_row w10 _ 0 _ _ kt
                    have tf1 := frozen_of_row w10 _ 1 _ _ kt
                    simp at tc0 tc1
                    have sc0 := cell_of_row w10 _ 0 _ _ _ ks
                    have sc1 := cell_of_row w10 _ 1 _ _ _ ks
                    have sc2 := cell_of_row w10 _ 2 _ _ _ ks
                    have sf0 := frozen_of_row w10 _ 0 _ _ ks
                    have sf1 := frozen_of_row w10 _ 1 _ _ ks
                    have sf2 := frozen_of_row w10 _ 2 _ _ ks
                    simp at sc0 sc1 sc2
                    clear kt ks hb9
                    go_wp2_with fail
                    go_roundw
                    case rel => exact ⟨n + 1, by omega, by go_num, below_step HBN.out hbe⟩
                    case measure => simp [intOf]; omega
                  · have hE2 := HN2.out h2
                    clear h2
                    by_cases h3 : P = s.payload
                    · have hE3 := HY3.out h3
                      clear h3
                      go_wp2_with fail
                      refine (hE1 _ hbe).mono ?_
                      rintro e w9 ⟨rfl, hb9⟩
                      have hbe := below_step hbe hb9
                      have kt := keepB hbe HKT8.out
                      have ks := keepB hbe HKS8.out
                      have tc0 := cell_of_row w9 _ 0 _ _ _ kt
                      have tc1 := cell_of_row w9 _ 1 _ _ _ kt
                      have tf0 := frozen_of_row w9 _ 0 _ _ kt
                      have tf1 := frozen_of_row w9 _ 1 _ _ kt
                      simp at tc0 tc1
                      have sc0 := cell_of_row w9 _ 0 _ _ _ ks
                      have sc1 := cell_of_row w9 _ 1 _ _ _ ks
                      have sc2 := cell_of_row w9 _ 2 _ _ _ ks
                      have sf0 := frozen_of_row w9 _ 0 _ _ ks
                      have sf1 := frozen_of_row w9 _ 1 _ _ ks
                      have sf2 := frozen_of_row w9 _ 2 _ _ ks
                      simp at sc0 sc1 sc2
                      clear kt ks hb9
                      go_wp2_with fail
                      refine (hE2 _ hbe).mono ?_
                      rintro e w10 ⟨rfl, hb9⟩
                      have hbe := below_step hbe hb9
                      have kt := keepB hbe HKT8.out
                      have ks := keepB hbe HKS8.out
                      have tc0 := cell_of_row w10 _ 0 _ _ _ kt
                      have tc1 := cell_of_row w10 _ 1 _ _ _ kt
                      have tf0 := frozen_of_row w10 _ 0 _ _ kt
                      have tf1 := frozen_of_row w10 _ 1 _ _ kt
                      simp at tc0 tc1
                      have sc0 := cell_of_row w10 _ 0 _ _ _ ks
                      have sc1 := cell_of_row w10 _ 1 _ _ _ ks
                      have sc2 := cell_of_row w10 _ 2 _ _ _ ks
                      have sf0 := frozen_of_row w10 _ 0 _ _ ks
                      have sf1 := frozen_of_row w10 _ 1 _ _ ks
                      have sf2 := frozen_of_row w10 _ 2 _ _ ks
                      simp at sc0 sc1 sc2
                      clear kt ks hb9
                      go_wp2_with fail
                      refine (hE3 _ hbe).mono ?_
                      rintro e w11 ⟨rfl, hb9⟩
                      have hbe := below_step hbe hb9
                      have kt := keepB hbe HKT8.out
                      have ks := keepB hbe HKS8.out
                      have tc0 := cell_of_row w11 _ 0 _ _ _ kt
                      have tc1 := cell_of_row w11 _ 1 _ _ _ kt
                      have tf0 := frozen_of_row w11 _ 0 _ _ kt
                      have tf1 := frozen_of_row w11 _ 1 _ _ kt
                      simp at tc0 tc1
                      have sc0 := cell_of_row w11 _ 0 _ _ _ ks
                      have sc1 := cell_of_row w11 _ 1 _ _ _ ks
                      have sc2 := cell_of_row w11 _ 2 _ _ _ ks
                      have sf0 := frozen_of_row w11 _ 0 _ _ ks
                      have sf1 := frozen_of_row w11 _ 1 _ _ ks
                      have sf2 := frozen_of_row w11 _ 2 _ _ ks
                      simp at sc0 sc1 sc2
                      clear kt ks hb9
                      go_wp2_with fail
                      go_roundw
                      case rel => exact ⟨n + 1, by omega, by go_num, below_step HBN.out hbe⟩
                      case measure => simp [intOf]; omega
                    · have hE3 := HN3.out h3
                      clear h3
                      go_wp2_with fail
                      refine (hE1 _ hbe).mono ?_
                      rintro e w9 ⟨rfl, hb9⟩
                      have hbe := below_step hbe hb9
                      have kt := keepB hbe HKT8.out
                      have ks := keepB hbe HKS8.out
                      have tc0 := cell_of_row w9 _ 0 _ _ _ kt
                      have tc1 := cell_of_row w9 _ 1 _ _ _ kt
                      have tf0 := frozen_of_row w9 _ 0 _ _ kt
                      have tf1 := frozen_of_row w9 _ 1 _ _ kt
                      simp at tc0 tc1
                      have sc0 := cell_of_row w9 _ 0 _ _ _ ks
                      have sc1 := cell_of_row w9 _ 1 _ _ _ ks
                      have sc2 := cell_of_row w9 _ 2 _ _ _ ks
                      have sf0 := frozen_of_row w9 _ 0 _ _ ks
                      have sf1 := frozen_of_row w9 _ 1 _ _ ks
                      have sf2 := frozen_of_row w9 _ 2 _ _ ks
                      simp at sc0 sc1 sc2
                      clear kt ks hb9
                      go_wp2_with fail
                      refine (hE2 _ hbe).mono ?_
                      rintro e w10 ⟨rfl, hb9⟩
                      have hbe := below_step hbe hb9
                      have kt := keepB hbe HKT8.out
                      have ks := keepB hbe HKS8.out
                      have tc0 := cell_of_row w10 _ 0 _ _ _ kt
                      have tc1 := cell_of_row w10 _ 1 _ _ _ kt
                      have tf0 := frozen_of_row w10 _ 0 _ _ kt
                      have tf1 := frozen_of_row w10 _ 1 _ _ kt
                      simp at tc0 tc1
                      have sc0 := cell_of_row w10 _ 0 _ _ _ ks
                      have sc1 := cell_of_row w10 _ 1 _ _ _ ks
                      have sc2 := cell_of_row w10 _ 2 _ _ _ ks
                      have sf0 := frozen_of_row w10 _ 0 _ _ ks
                      have sf1 := frozen_of_row w10 _ 1 _ _ ks
                      have sf2 := frozen_of_row w10 _ 2 _ _ ks
                      simp at sc0 sc1 sc2
                      clear kt ks hb9
                      go_wp2_with fail
                      refine (hE3 _ hbe).mono ?_
                      rintro e w11 ⟨rfl, hb9⟩
                      have hbe := below_step hbe hb9
                      have kt := keepB hbe HKT8.out
                      have ks := keepB hbe HKS8.out
                      have tc0 := cell_of_row w11 _ 0 _ _ _ kt
                      have tc1 := cell_of_row w11 _ 1 _ _ _ kt
                      have tf0 := frozen_of_row w11 _ 0 _ _ kt
                      have tf1 := frozen_of_row w11 _ 1 _ _ kt
                      simp at tc0 tc1
                      have sc0 := cell_of_row w11 _ 0 _ _ _ ks
                      have sc1 := cell_of_row w11 _ 1 _ _ _ ks
                      have sc2 := cell_of_row w11 _ 2 _ _ _ ks
                      have sf0 := frozen_of_row w11 _ 0 _ _ ks
                      have sf1 := frozen_of_row w11 _ 1 _ _ ks
                      have sf2 := frozen_of_row w11 _ 2 _ _ ks
                      simp at sc0 sc1 sc2
                      clear kt ks hb9
                      go_wp2_with fail
                      go_roundw
                      case rel => exact ⟨n + 1, by omega, by go_num, below_step HBN.out hbe⟩
                      case measure => simp [intOf]; omega
                · have t2' : ¬ (n : Int) < 2 := by omega
                  go_wp2_with fail
                  refine (hE1 _ hbe).mono ?_
                  rintro e w9 ⟨rfl, hb9⟩
                  have hbe := below_step hbe hb9
                  have kt := keepB hbe HKT8.out
                  have ks := keepB hbe HKS8.out
                  have tc0 := cell_of_row w9 _ 0 _ _ _ kt
                  have tc1 := cell_of_row w9 _ 1 _ _ _ kt
                  have tf0 := frozen_of_row w9 _ 0 _ _ kt
                  have tf1 := frozen_of_row w9 _ 1 _ _ kt
                  simp at tc0 tc1
                  have sc0 := cell_of_row w9 _ 0 _ _ _ ks
                  have sc1 := cell_of_row w9 _ 1 _ _ _ ks
                  have sc2 := cell_of_row w9 _ 2 _ _ _ ks
                  have sf0 := frozen_of_row w9 _ 0 _ _ ks
                  have sf1 := frozen_of_row w9 _ 1 _ _ ks
                  have sf2 := frozen_of_row w9 _ 2 _ _ ks
                  simp at sc0 sc1 sc2
                  clear kt ks hb9
                  go_wp2_with fail
                  go_roundw
                  case rel => exact ⟨n + 1, by omega, by go_num, below_step HBN.out hbe⟩
                  case measure => simp [intOf]; omega
            · rw [if_neg hG] at hLE
              have hPP : P = supPay ⟨o', []⟩ 5 := by rw [hP, loadPay, if_pos hLE]; rfl
              have hpay := HF.out.pay hG
              rw [← hPP] at hpay
              rw [hLE]
              clear hLE hG hP hPP
              by_cases h1 : P = pl
              · have hE1 := HY1.out h1
                clear h1 hpay
                by_cases hn4 : n = 4
                · subst hn4
                  go_wp2_with fail
                  refine (hE1 _ hbe).mono ?_
                  rintro e w9 ⟨rfl, hb9⟩
                  have hbe := below_step hbe hb9
                  have kt := keepB hbe HKT8.out
                  have ks := keepB hbe HKS8.out
                  have tc0 := cell_of_row w9 _ 0 _ _ _ kt
                  have tc1 := cell_of_row w9 _ 1 _ _ _ kt
                  have tf0 := frozen_of_row w9 _ 0 _ _ kt
                  have tf1 := frozen_of_row w9 _ 1 _ _ kt
                  simp at tc0 tc1
                  have sc0 := cell_of_row w9 _ 0 _ _ _ ks
                  have sc1 := cell_of_row w9 _ 1 _ _ _ ks
                  have sc2 := cell_of_row w9 _ 2 _ _ _ ks
                  have sf0 := frozen_of_row w9 _ 0 _ _ ks
                  have sf1 := frozen_of_row w9 _ 1 _ _ ks
                  have sf2 := frozen_of_row w9 _ 2 _ _ ks
                  simp at sc0 sc1 sc2
                  clear kt ks hb9
                  go_wp2_with fail
                  go_roundw
                  case rel => exact ⟨4 + 1, by omega, by go_num, below_step HBN.out hbe⟩
                  case measure => simp [intOf]
                · have g4 : ((n : Int) == 4) = false := by rw [beq_eq_false_iff_ne]; omega
                  go_wp2_with fail
                  refine (hE1 _ hbe).mono ?_
                  rintro e w9 ⟨rfl, hb9⟩
                  have hbe := below_step hbe hb9
                  have kt := keepB hbe HKT8.out
                  have ks := keepB hbe HKS8.out
                  have tc0 := cell_of_row w9 _ 0 _ _ _ kt
                  have tc1 := cell_of_row w9 _ 1 _ _ _ kt
                  have tf0 := frozen_of_row w9 _ 0 _ _ kt
                  have tf1 := frozen_of_row w9 _ 1 _ _ kt
                  simp at tc0 tc1
                  have sc0 := cell_of_row w9 _ 0 _ _ _ ks
                  have sc1 := cell_of_row w9 _ 1 _ _ _ ks
                  have sc2 := cell_of_row w9 _ 2 _ _ _ ks
                  have sf0 := frozen_of_row w9 _ 0 _ _ ks
                  have sf1 := frozen_of_row w9 _ 1 _ _ ks
                  have sf2 := frozen_of_row w9 _ 2 _ _ ks
                  simp at sc0 sc1 sc2
                  clear kt ks hb9
                  go_wp2_with fail
                  go_roundw
                  case rel => exact ⟨n + 1, by omega, by go_num, below_step HBN.out hbe⟩
                  case measure => simp [intOf]; omega
              · have hE1 := HN1.out h1
                obtain ⟨hn2, hor⟩ := hpay.resolve_left h1
                clear h1 hpay
                have t2' : (n : Int) < 2 := by omega
                have g4 : ((n : Int) == 4) = false := by rw [beq_eq_false_iff_ne]; omega
                by_cases h2 : P = old
                · have hE2 := HY2.out h2
                  clear h2 hor
                  go_wp2_with fail
                  refine (hE1 _ hbe).mono ?_
                  rintro e w9 ⟨rfl, hb9⟩
                  have hbe := below_step hbe hb9
                  have kt := keepB hbe HKT8.out
                  have ks := keepB hbe HKS8.out
                  have tc0 := cell_of_row w9 _ 0 _ _ _ kt
                  have tc1 := cell_of_row w9 _ 1 _ _ _ kt
                  have tf0 := frozen_of_row w9 _ 0 _ _ kt
                  have tf1 := frozen_of_row w9 _ 1 _ _ kt
                  simp at tc0 tc1
                  have sc0 := cell_of_row w9 _ 0 _ _ _ ks
                  have sc1 := cell_of_row w9 _ 1 _ _ _ ks
                  have sc2 := cell_of_row w9 _ 2 _ _ _ ks
                  have sf0 := frozen_of_row w9 _ 0 _ _ ks
                  have sf1 := frozen_of_row w9 _ 1 _ _ ks
                  have sf2 := frozen_of_row w9 _ 2 _ _ ks
                  simp at sc0 sc1 sc2
                  clear kt ks hb9
                  go_wp2_with fail
                  refine (hE2 _ hbe).mono ?_
                  rintro e w10 ⟨rfl, hb9⟩
                  have hbe := below_step hbe hb9
                  have kt := keepB hbe HKT8.out
                  have ks := keepB hbe HKS8.out
                  have tc0 := cell_of_row w10 _ 0 _ _ _ kt
                  have tc1 := cell_of_row w10 _ 1 _ _ _ kt
                  have tf0 := frozen_of_row w10 _ 0 _ _ kt
                  have tf1 := frozen_of_row w10 _ 1 _ _ kt
                  simp at tc0 tc1
                  have sc0 := cell_of_row w10 _ 0 _ _ _ ks
                  have sc1 := cell_of_row w10 _ 1 _ _ _ ks
                  have sc2 := cell_of_row w10 _ 2 _ _ _ ks
                  have sf0 := frozen_of_row w10 _ 0 _ _ ks
                  have sf1 := frozen_of_row w10 _ 1 _ _ ks
                  have sf2 := frozen_of_row w10 _ 2 _ _ ks
                  simp at sc0 sc1 sc2
                  clear kt ks hb9
                  go_wp2_with fail
                  go_roundw
                  case rel => exact ⟨n + 1, by omega, by go_num, below_step HBN.out hbe⟩
                  case measure => simp [intOf]; omega
                · have hE2 := HN2.out h2
                  have hE3 := HY3.out (hor.resolve_left h2)
                  clear h2 hor
                  go_wp2_with fail
                  refine (hE1 _ hbe).mono ?_
                  rintro e w9 ⟨rfl, hb9⟩
                  have hbe := below_step hbe hb9
                  have kt := keepB hbe HKT8.out
                  have ks := keepB hbe HKS8.out
                  have tc0 := cell_of_row w9 _ 0 _ _ _ kt
                  have tc1 := cell_of_row w9 _ 1 _ _ _ kt
                  have tf0 := frozen_of_row w9 _ 0 _ _ kt
                  have tf1 := frozen_of_row w9 _ 1 _ _ kt
                  simp at tc0 tc1
                  have sc0 := cell_of_row w9 _ 0 _ _ _ ks
                  have sc1 := cell_of_row w9 _ 1 _ _ _ ks
                  have sc2 := cell_of_row w9 _ 2 _ _ _ ks
                  have sf0 := frozen_of_row w9 _ 0 _ _ ks
                  have sf1 := frozen_of_row w9 _ 1 _ _ ks
                  have sf2 := frozen_of_row w9 _ 2 _ _ ks
                  simp at sc0 sc1 sc2
                  clear kt ks hb9
                  go_wp2_with fail
                  refine (hE2 _ hbe).mono ?_
                  rintro e w10 ⟨rfl, hb9⟩
                  have hbe := below_step hbe hb9
                  have kt := keepB hbe HKT8.out
                  have ks := keepB hbe HKS8.out
                  have tc0 := cell_of_row w10 _ 0 _ _ _ kt
                  have tc1 := cell_of_row w10 _ 1 _ _ _ kt
                  have tf0 := frozen_of_row w10 _ 0 _ _ kt
                  have tf1 := frozen_of_row w10 _ 1 _ _ kt
                  simp at tc0 tc1
                  have sc0 := cell_of_row w10 _ 0 _ _ _ ks
                  have sc1 := cell_of_row w10 _ 1 _ _ _ ks
                  have sc2 := cell_of_row w10 _ 2 _ _ _ ks
                  have sf0 := frozen_of_row w10 _ 0 _ _ ks
                  have sf1 := frozen_of_row w10 _ 1 _ _ ks
                  have sf2 := frozen_of_row w10 _ 2 _ _ ks
                  simp at sc0 sc1 sc2
                  clear kt ks hb9
                  go_wp2_with fail
                  refine (hE3 _ hbe).mono ?_
                  rintro e w11 ⟨rfl, hb9⟩
                  have hbe := below_step hbe hb9
                  have kt := keepB hbe HKT8.out
                  have ks := keepB hbe HKS8.out
                  have tc0 := cell_of_row w11 _ 0 _ _ _ kt
                  have tc1 := cell_of_row w11 _ 1 _ _ _ kt
                  have tf0 := frozen_of_row w11 _ 0 _ _ kt
                  have tf1 := frozen_of_row w11 _ 1 _ _ kt
                  simp at tc0 tc1
                  have sc0 := cell_of_row w11 _ 0 _ _ _ ks
                  have sc1 := cell_of_row w11 _ 1 _ _ _ ks
                  have sc2 := cell_of_row w11 _ 2 _ _ _ ks
                  have sf0 := frozen_of_row w11 _ 0 _ _ ks
                  have sf1 := frozen_of_row w11 _ 1 _ _ ks
                  have sf2 := frozen_of_row w11 _ 2 _ _ ks
                  simp at sc0 sc1 sc2
                  clear kt ks hb9
                  go_wp2_with fail
                  go_roundw
                  case rel => exact ⟨n + 1, by omega, by go_num, below_step HBN.out hbe⟩
                  case measure => simp [intOf]; omega
          · obtain rfl : n = 5 := by omega
            go_wp2_with fail
            refine (awake_ _).mono ?_
            rintro e w9 ⟨rfl, hb9⟩
            go_wp2_with fail
            go_ret
            exact ⟨rfl, below_step (below_step hB6 hbn) hb9⟩
    · have t2 : (31 : Int) < pl.length := by omega
      go_enter Tryd.func9, Tryd.ntmps9
      go_wp2_with fail
      refine (awake_ _).mono ?_
      rintro e w4 ⟨rfl, hb4⟩
      go_wp2_with fail
      go_ret
      exact ⟨rfl, below_step (below_alloc w _) hb4⟩
  · have t1 : (31 : Int) < old.length := by omega
    go_enter Tryd.func9, Tryd.ntmps9
    go_wp2_with fail
    refine (awake_ _).mono ?_
    rintro e w4 ⟨rfl, hb4⟩
    go_wp2_with fail
    go_ret
    exact ⟨rfl, below_step (below_alloc w _) hb4⟩
end Go.Proofs.YtnddgpkljpjjbaaDoor
