/- law12.step. -/
import Derived.Test.YtnddgpkljpjjbaaDoorStep0
import Derived.Test.YtnddgpkljpjjbaaDoorSRun
import Derived.Test.YtnddgpkljpjjbaaDoorInterrupt
namespace Go.Proofs.YtnddgpkljpjjbaaDoor
open Go.RowKit
set_option linter.unusedVariables false
set_option linter.unusedSimpArgs false
def RetStep (w : World) (st : List Sec) (xs : List UInt8) (e : Ending) (w' : World) : Prop :=
  ∃ (out : List Sec) (sa : Option Addr) (sn : Nat) (ca : Option Addr) (cn : Nat) (dn : Bool), e = .returned (.tuple #[.agg #[.slice sa out.length sn, .slice ca 0 cn], .bool dn, .bool true]) ∧ OwnDisk w.heap.size w' (.slice sa out.length sn) (.slice ca 0 cn) ⟨out, []⟩ ∧ Mixed st 5 xs out ∧ (dn = true → out = whole st 5 xs) ∧ Below w.heap.size w w'
theorem store_two {w : World} {v : Value} {st : List Sec} {p : Nat} {xs : List UInt8} (hb : Base st p xs) (h : SlRep w v (storeRes ⟨st, []⟩ p xs)) : ∃ a c, v = .slice a 2 c := by
  obtain ⟨a, c, e, _⟩ := h.ex
  rw [hb.ops] at e
  exact ⟨a, c, e⟩
theorem store_room {st : List Sec} {p : Nat} {xs : List UInt8} (hb : Base st p xs) : ([] : List Cached).length + room (storeRes ⟨st, []⟩ p xs) ≤ 1000000 := by
  rw [hb.ops]; simp [room, copySecs_len]
theorem store_at {st : List Sec} {p : Nat} {xs : List UInt8} (hb : Base st p xs) : ∀ o ∈ storeRes ⟨st, []⟩ p xs, -9223372036854775808 ≤ o.at_ ∧ o.at_ ≤ 9223372036854775807 := by
  have h1 := hb.other; have h2 := hb.small
  rw [hb.ops]
  intro o ho
  simp only [List.mem_cons, List.mem_nil_iff, or_false] at ho
  rcases ho with rfl | rfl
  · simp only; omega
  · simp
/-- the three boxes of a step, behind the Store -/
structure StepBoxes (w w1 : World) (u0 u1 p a c : Value) : Prop where
  b0 : w1.heap[w.heap.size]? = some (.cells #[u0, u1] 35 (0, 0))
  b1 : w1.heap[w.heap.size + 1]? = some (.cells #[p, a, c] 54 (0, 0))
  b2 : w1.heap[w.heap.size + 1 + 1]? = some (.cells #[.slice none 0 0, .slice none 0 0] 35 (0, 0))
  bel : Below w.heap.size w w1
theorem StepBoxes.next {w w1 w2 : World} {u0 u1 p a c : Value} (h : StepBoxes w w1 u0 u1 p a c) (hb : Below w1.heap.size w1 w2) : StepBoxes w w2 u0 u1 p a c :=
  ⟨keepB hb h.b0, keepB hb h.b1, keepB hb h.b2, below_step h.bel hb⟩
theorem step_boxes (w : World) (u0 u1 p a c : Value) : StepBoxes w (((w.alloc (.cells #[u0, u1] 35)).alloc (.cells #[p, a, c] 54)).alloc (.cells #[.slice none 0 0, .slice none 0 0] 35)) u0 u1 p a c :=
  have h := heap_alloc3_ (w := w) (o := .cells #[u0, u1] 35) (o' := .cells #[p, a, c] 54) (o'' := .cells #[.slice none 0 0, .slice none 0 0] 35)
  ⟨h.1, h.2.1, h.2.2, below_alloc3 _ _ _ _⟩
set_option maxRecDepth 100000 in
set_option maxHeartbeats 4000000 in
theorem law_step_run (u v : Value) (st : List Sec) (s : StepD) (w : World) (hd : DiskRep w u ⟨st, []⟩) (hv : ∃ a c, v = .agg #[a, .int .u8 s.after.toNat, c] ∧ SlRep w a s.payload ∧ SlRep w c s.choices) (hb : Base st 5 s.payload) (h2 : 2 < s.after.toNat) :
    Calls Tryd.prog 22 #[u, v] w (RetStep w st s.payload) := by
  obtain ⟨s0, c0, rfl, h1, h1'⟩ := hd.ex
  obtain ⟨sa, sc, rfl, _⟩ := h1.ex
  obtain ⟨ca, cc, rfl, _⟩ := h1'.ex
  obtain ⟨p, c, rfl, hp, hc⟩ := hv
  obtain ⟨pa, pc, rfl, _⟩ := hp.ex
  obtain ⟨xa, xc, rfl, _⟩ := hc.ex
  have HE := Lib.hid hb.noErr; have HB := Lib.hid hb
  have h2' : (2 : Int) < s.after.toNat := by omega
  have HR := Lib.hid hb.run2
  have hok := hb.ok
  simp only [List.length_nil] at hd ⊢
  go_enter Tryd.func22, Tryd.ntmps22
  go_wp2_with fail
  refine (sup_Store _ ⟨st, []⟩ 5 _ s.payload _ (hd.below (below_alloc3 _ _ _ _)) (by omega) (hp.below (below_alloc3 _ _ _ _))).mono ?_
  rintro e w1 ⟨v1, rfl, hv1, hb1⟩
  obtain ⟨a1, n1, rfl⟩ := store_two (p := 5) HB.out hv1
  have B1 := (step_boxes w (.slice sa st.length sc) (.slice ca 0 cc) (.slice pa s.payload.length pc) (.int .u8 s.after.toNat) (.slice xa s.choices.length xc)).next hb1
  have k0 := B1.b0; have k1 := B1.b1
  have HB1 := Lib.hid B1; clear hb1 B1
  rw [show ((5 : Nat) : Int) = 5 from rfl] at HE HR
  rw [HE.out]
  have ec0 := cell_of_row w1 _ 0 _ _ _ k0
  have ec1 := cell_of_row w1 _ 1 _ _ _ k0
  have ef0 := frozen_of_row w1 _ 0 _ _ k0
  have ef1 := frozen_of_row w1 _ 1 _ _ k0
  simp at ec0 ec1
  have fc0 := cell_of_row w1 _ 0 _ _ _ k1
  have fc1 := cell_of_row w1 _ 1 _ _ _ k1
  have fc2 := cell_of_row w1 _ 2 _ _ _ k1
  have ff0 := frozen_of_row w1 _ 0 _ _ k1
  have ff1 := frozen_of_row w1 _ 1 _ _ k1
  have ff2 := frozen_of_row w1 _ 2 _ _ k1
  simp at fc0 fc1 fc2
  clear k0 k1
  go_wp2_with fail
  refine (disk_Run _ ⟨st, []⟩ _ _ _ (hd.below HB1.out.bel) hv1 hok (store_room (p := 5) HB.out) (store_at (p := 5) HB.out)).mono ?_
  rintro e w2 ⟨s3, c3, rfl, ho, hb2⟩
  rw [HR.out] at ho ⊢
  simp only [if_true] at ho
  obtain ⟨a3, n3, rfl, _⟩ := ho.1.sl.ex
  obtain ⟨a4, n4, rfl, _⟩ := ho.2.sl.ex
  simp only [List.length_nil] at ho ⊢
  have HB2 := Lib.hid (HB1.out.next hb2)
  have k2 := HB2.out.b2
  have hz2 := (Array.getElem?_eq_some_iff.1 k2).1
  have gc0 := cell_of_row w2 _ 0 _ _ _ k2
  have gc1 := cell_of_row w2 _ 1 _ _ _ k2
  have gf0 := frozen_of_row w2 _ 0 _ _ k2
  have gf1 := frozen_of_row w2 _ 1 _ _ k2
  simp at gc0 gc1
  have ho1 : Own w1.heap.size 57 w2 (.slice a3 (whole st 5 s.payload).length n3) (whole st 5 s.payload) := ho.1
  have ho2 : Own w1.heap.size 109 w2 (.slice a4 0 n4) ([] : List Cached) := ho.2
  have hzw : w.heap.size + 1 + 1 < w1.heap.size := (Array.getElem?_eq_some_iff.1 HB1.out.b2).1
  have hB2 := HB2.out.bel
  clear ho hb2 k2
  go_wp2
  refine bodyPost_ret (v := .tuple #[.agg #[.slice a3 (whole st 5 s.payload).length n3, .slice a4 0 n4], .bool true, .bool true]) (by simp [results, Tryd.results22, go_sem, gc0, gc1, hz2]) rfl ?_
  exact ⟨whole st 5 s.payload, a3, n3, a4, n4, true, rfl, ⟨(ho1.sets (B' := w.heap.size) hzw (by omega)).below (below_alloc _ _), (ho2.sets (B' := w.heap.size) hzw (by omega)).below (below_alloc _ _)⟩, HB.out.mixed2, fun _ => rfl, ((hB2.setCell (p := ⟨w.heap.size + 1 + 1, 0, none⟩) (by simp; omega) _).setCell (p := ⟨w.heap.size + 1 + 1, 1, none⟩) (by simp; omega) _).alloc (by simp; exact hB2.size) _⟩
/-- what is left of a Store of which the first n operations were run, ahead of the crash -/
theorem store_cut {st : List Sec} {p : Nat} {xs : List UInt8} (hb : Base st p xs) (n : Nat) (hn : n ≤ 2) : ∃ d1, (runOps ((storeRes ⟨st, []⟩ p xs).take n) ⟨st, []⟩ 0).1 = d1 ∧ (runOps ((storeRes ⟨st, []⟩ p xs).take n) ⟨st, []⟩ 0).2.2 = 0 ∧ d1.ok = true ∧ d1.cache.length ≤ 1000000 ∧
    ∀ out, CrashOf d1 out → Mixed st p xs out ∧ (2 ≤ n → out = whole st p xs) := by
  match n, hn with
  | 0, _ => exact ⟨⟨st, []⟩, rfl, rfl, hb.ok, by simp, fun out ho => by rw [crash_none ho]; exact ⟨Mixed.same _ _ _, by omega⟩⟩
  | 1, _ =>
    refine ⟨⟨st, putsAt (otherAt ⟨st, []⟩ p : Nat) (copySecs (supTop ⟨st, []⟩ p + 1) xs)⟩, by rw [hb.run1], by rw [hb.run1], ?_, by simp [putsAt_length, copySecs_len], fun out ho => ⟨hb.mixed1 ho, by omega⟩⟩
    have h := stepOp_ok ⟨st, []⟩ ⟨0, (otherAt ⟨st, []⟩ p : Nat), copySecs (supTop ⟨st, []⟩ p + 1) xs⟩ hb.ok
    rw [hb.first] at h
    exact h
  | 2, _ =>
    have e : (storeRes ⟨st, []⟩ p xs).take 2 = storeRes ⟨st, []⟩ p xs := by rw [hb.ops]; rfl
    refine ⟨⟨whole st p xs, []⟩, by rw [e, hb.run2], by rw [e, hb.run2], ?_, by simp, fun out ho => by rw [crash_none ho]; exact ⟨hb.mixed2, fun _ => rfl⟩⟩
    have hl : (whole st p xs).length = st.length := putAll_length _ _
    simp [Disk.ok, hl, hb.small]
set_option maxRecDepth 100000 in
set_option maxHeartbeats 4000000 in
theorem law_step_crash (u v : Value) (st : List Sec) (s : StepD) (w : World) (hd : DiskRep w u ⟨st, []⟩) (hv : ∃ a c, v = .agg #[a, .int .u8 s.after.toNat, c] ∧ SlRep w a s.payload ∧ SlRep w c s.choices) (hb : Base st 5 s.payload) (hok' : StepOk s) (hcl : s.choices.length ≤ 40) (h2 : s.after.toNat ≤ 2) :
    Calls Tryd.prog 22 #[u, v] w (RetStep w st s.payload) := by
  obtain ⟨s0, c0, rfl, h1, h1'⟩ := hd.ex
  obtain ⟨sa, sc, rfl, _⟩ := h1.ex
  obtain ⟨ca, cc, rfl, _⟩ := h1'.ex
  obtain ⟨p, c, rfl, hp, hc⟩ := hv
  obtain ⟨pa, pc, rfl, _⟩ := hp.ex
  obtain ⟨xa, xc, rfl, _⟩ := hc.ex
  obtain ⟨d1, hd1, hr1, hk1, hc1, hall⟩ := store_cut hb s.after.toNat h2
  rw [show ((5 : Nat) : Int) = 5 from rfl] at hd1 hr1
  have HE := Lib.hid hb.noErr; have HB := Lib.hid hb
  have h2' : ¬ (2 : Int) < s.after.toNat := by omega
  have hok := hb.ok
  have hl2 : (storeRes ⟨st, []⟩ 5 s.payload).length = 2 := by have := hb.ops; rw [show ((5 : Nat) : Int) = 5 from rfl] at this; rw [this]; rfl
  have hroom : ([] : List Cached).length + room ((storeRes ⟨st, []⟩ 5 s.payload).take s.after.toNat) ≤ 1000000 := by
    have := hb.ops; rw [show ((5 : Nat) : Int) = 5 from rfl] at this; rw [this]
    obtain h | h | h : s.after.toNat = 0 ∨ s.after.toNat = 1 ∨ s.after.toNat = 2 := by omega
    all_goals rw [h]; simp [room, copySecs_len]
  have hat : ∀ o ∈ (storeRes ⟨st, []⟩ 5 s.payload).take s.after.toNat, -9223372036854775808 ≤ o.at_ ∧ o.at_ ≤ 9223372036854775807 := fun o ho => store_at hb o (List.mem_of_mem_take ho)
  have HD1 := Lib.hid hd1; have HR1 := Lib.hid hr1; have HRM := Lib.hid hroom; have HAT := Lib.hid hat; have HL2 := Lib.hid hl2; clear hd1 hr1 hroom hat hl2
  have hwu : IntKind.i64.wrap (s.after.toNat : Int) = s.after.toNat := IntWalk.i64_in _ (by omega)
  simp only [List.length_nil] at hd ⊢
  go_enter Tryd.func22, Tryd.ntmps22
  go_wp2_with fail
  refine (sup_Store _ ⟨st, []⟩ 5 _ s.payload _ (hd.below (below_alloc3 _ _ _ _)) (by omega) (hp.below (below_alloc3 _ _ _ _))).mono ?_
  rintro e w1 ⟨v1, rfl, hv1, hb1⟩
  obtain ⟨a1, n1, rfl⟩ := store_two (p := 5) HB.out hv1
  have B1 := (step_boxes w (.slice sa st.length sc) (.slice ca 0 cc) (.slice pa s.payload.length pc) (.int .u8 s.after.toNat) (.slice xa s.choices.length xc)).next hb1
  have k0 := B1.b0; have k1 := B1.b1
  have HB1 := Lib.hid B1; clear hb1 B1
  rw [show ((5 : Nat) : Int) = 5 from rfl] at HE
  rw [HE.out]
  have ec0 := cell_of_row w1 _ 0 _ _ _ k0
  have ec1 := cell_of_row w1 _ 1 _ _ _ k0
  have ef0 := frozen_of_row w1 _ 0 _ _ k0
  have ef1 := frozen_of_row w1 _ 1 _ _ k0
  simp at ec0 ec1
  have fc0 := cell_of_row w1 _ 0 _ _ _ k1
  have fc1 := cell_of_row w1 _ 1 _ _ _ k1
  have fc2 := cell_of_row w1 _ 2 _ _ _ k1
  have ff0 := frozen_of_row w1 _ 0 _ _ k1
  have ff1 := frozen_of_row w1 _ 1 _ _ k1
  have ff2 := frozen_of_row w1 _ 2 _ _ k1
  simp at fc0 fc1 fc2
  clear k0 k1
  go_wp2_with fail
  refine (disk_Interrupt w1 ⟨st, []⟩ d1 _ _ _ _ s.after.toNat s.choices (hd.below HB1.out.bel) hv1 (hc.below HB1.out.bel) hok' (by omega) hok (by rw [HL2.out]; exact h2) (by intro e; have := HL2.out; rw [e] at this; cases this) HRM.out HAT.out HR1.out HD1.out hk1 hc1).mono ?_
  rintro e w2 ⟨out, a3, n3, lv, rfl, hcr, ho, hb2⟩
  have ho1 : Own w1.heap.size 57 w2 (.slice a3 out.length n3) out := ho.1
  have HB2 := Lib.hid (HB1.out.next hb2)
  have k0 := HB2.out.b0; have k1 := HB2.out.b1; have k2 := HB2.out.b2
  have hz2 := (Array.getElem?_eq_some_iff.1 k2).1
  have gc0 := cell_of_row w2 _ 0 _ _ _ k0
  have gc1 := cell_of_row w2 _ 1 _ _ _ k0
  have gf0 := frozen_of_row w2 _ 0 _ _ k0
  have gf1 := frozen_of_row w2 _ 1 _ _ k0
  simp at gc0 gc1
  have hc0 := cell_of_row w2 _ 0 _ _ _ k1
  have hc1 := cell_of_row w2 _ 1 _ _ _ k1
  have hc2 := cell_of_row w2 _ 2 _ _ _ k1
  have hf0 := frozen_of_row w2 _ 0 _ _ k1
  have hf1 := frozen_of_row w2 _ 1 _ _ k1
  have hf2 := frozen_of_row w2 _ 2 _ _ k1
  simp at hc0 hc1 hc2
  have ic0 := cell_of_row w2 _ 0 _ _ _ k2
  have ic1 := cell_of_row w2 _ 1 _ _ _ k2
  have if0 := frozen_of_row w2 _ 0 _ _ k2
  have if1 := frozen_of_row w2 _ 1 _ _ k2
  simp at ic0 ic1
  have hzw : w.heap.size + 1 + 1 < w1.heap.size := (Array.getElem?_eq_some_iff.1 HB1.out.b2).1
  have hB2 := HB2.out.bel
  clear ho hb2 k0 k1 k2 ec0 ec1 ef0 ef1 fc0 fc1 fc2 ff0 ff1 ff2
  go_wp2_with fail
  have kA := heap_two1 (v := .slice none 0 0) (heap_two0 (v := .slice a3 out.length n3) HB2.out.b0)
  have kB := (block_set (w := w2.setCell ⟨w.heap.size, 0, none⟩ (.slice a3 out.length n3)) (i := 1) (v := .slice none 0 0) (show w.heap.size + 1 ≠ w.heap.size by omega)).trans ((block_set (w := w2) (i := 0) (v := .slice a3 out.length n3) (show w.heap.size + 1 ≠ w.heap.size by omega)).trans HB2.out.b1)
  have kC := (block_set (w := w2.setCell ⟨w.heap.size, 0, none⟩ (.slice a3 out.length n3)) (i := 1) (v := .slice none 0 0) (show w.heap.size + 1 + 1 ≠ w.heap.size by omega)).trans ((block_set (w := w2) (i := 0) (v := .slice a3 out.length n3) (show w.heap.size + 1 + 1 ≠ w.heap.size by omega)).trans HB2.out.b2)
  have hBW := (hB2.setCell (p := ⟨w.heap.size, 0, none⟩) (Nat.le_refl _) (.slice a3 out.length n3)).setCell (p := ⟨w.heap.size, 1, none⟩) (Nat.le_refl _) (.slice none 0 0)
  have hoW : Own w1.heap.size 57 ((w2.setCell ⟨w.heap.size, 0, none⟩ (.slice a3 out.length n3)).setCell ⟨w.heap.size, 1, none⟩ (.slice none 0 0)) (.slice a3 out.length n3) out := ho1.sets (by omega) (Nat.le_refl _)
  clear gc0 gc1 gf0 gf1 hc0 hc1 hc2 hf0 hf1 hf2 ic0 ic1 if0 if1
  generalize (w2.setCell ⟨w.heap.size, 0, none⟩ (.slice a3 out.length n3)).setCell ⟨w.heap.size, 1, none⟩ (.slice none 0 0) = W3 at *
  have gc0 := cell_of_row W3 _ 0 _ _ _ kA
  have gc1 := cell_of_row W3 _ 1 _ _ _ kA
  have gf0 := frozen_of_row W3 _ 0 _ _ kA
  have gf1 := frozen_of_row W3 _ 1 _ _ kA
  simp at gc0 gc1
  have hc0 := cell_of_row W3 _ 0 _ _ _ kB
  have hc1 := cell_of_row W3 _ 1 _ _ _ kB
  have hc2 := cell_of_row W3 _ 2 _ _ _ kB
  have hf0 := frozen_of_row W3 _ 0 _ _ kB
  have hf1 := frozen_of_row W3 _ 1 _ _ kB
  have hf2 := frozen_of_row W3 _ 2 _ _ kB
  simp at hc0 hc1 hc2
  have ic0 := cell_of_row W3 _ 0 _ _ _ kC
  have ic1 := cell_of_row W3 _ 1 _ _ _ kC
  have if0 := frozen_of_row W3 _ 0 _ _ kC
  have if1 := frozen_of_row W3 _ 1 _ _ kC
  simp at ic0 ic1
  have hz3 : w.heap.size + 1 + 1 < W3.heap.size := (Array.getElem?_eq_some_iff.1 kC).1
  clear kA kB kC
  apply wp_join ((W3.setCell ⟨w.heap.size + 1 + 1, 0, none⟩ (.slice a3 out.length n3)).setCell ⟨w.heap.size + 1 + 1, 1, none⟩ (.slice none 0 0)).drew
  case h =>
    go_region
    all_goals exact ⟨rfl, rfl⟩
  case hq =>
    go_wp2
    refine bodyPost_ret (v := .tuple #[.agg #[.slice a3 out.length n3, .slice none 0 0], .bool (decide (2 ≤ (s.after.toNat : Int))), .bool true]) (by simp [results, Tryd.results22, go_sem, ic0, ic1, hz3]) rfl ?_
    have hm := hall out hcr
    exact ⟨out, a3, n3, none, 0, _, rfl, ⟨(hoW.sets (B' := w.heap.size) hzw (by omega)).below (below_drew _), Own.nil _ _ _⟩, hm.1, fun h => hm.2 (by have := of_decide_eq_true h; omega), ((hBW.setCell (p := ⟨w.heap.size + 1 + 1, 0, none⟩) (by simp; omega) _).setCell (p := ⟨w.heap.size + 1 + 1, 1, none⟩) (by simp; omega) _).drew⟩
theorem law_step (u v : Value) (st : List Sec) (s : StepD) (w : World) (hd : DiskRep w u ⟨st, []⟩) (hv : ∃ a c, v = .agg #[a, .int .u8 s.after.toNat, c] ∧ SlRep w a s.payload ∧ SlRep w c s.choices) (hb : Base st 5 s.payload) (hok : StepOk s) (hf : stepFits s = true) :
    Calls Tryd.prog 22 #[u, v] w (RetStep w st s.payload) := by
  simp only [stepFits, Bool.and_eq_true, decide_eq_true_eq] at hf
  by_cases h2 : 2 < s.after.toNat
  · exact law_step_run u v st s w hd hv hb h2
  · exact law_step_crash u v st s w hd hv hb hok hf.2 (by omega)
end Go.Proofs.YtnddgpkljpjjbaaDoor
