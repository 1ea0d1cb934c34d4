/- the executor's run. -/
import Derived.Test.YtnddgpkljpjjbaaDoorExec3
import Derived.Laws.EntriesVeiled
namespace Go.Proofs.YtnddgpkljpjjbaaDoor
open Go.RowKit
set_option linter.unusedVariables false
set_option linter.unusedSimpArgs false
theorem ExecW.below {w0 w w' : World} {xb : Nat} {d : Disk} (h : ExecW w0 w xb d) (hb : Below w.heap.size w w') : ExecW w0 w' xb d := by
  obtain ⟨s, c, hx, ho, hB, hxb⟩ := h
  exact ⟨s, c, keepB hb hx, ⟨ho.1.below hb, ho.2.below hb⟩, below_step hB hb, hxb⟩
theorem keepT_cell {t t' : TypeId} {xb k o : Nat} {w w' : World} {cs : Array Value} {fz : Nat × Nat} (h : KeepT t xb w w') (hk : w.heap[k]? = some (.cells cs t' fz)) (hx : k ≠ xb) (ht : t' ≠ t) : w'.cell? ⟨k, o, none⟩ = w.cell? ⟨k, o, none⟩ :=
  World.cell?_of_block (w := w) ((h.2 k cs t' fz hk hx ht).trans hk.symm)
/-- what the operations are, in memory that lay at w0 -/
def OpsIn (w0 : World) (v : Value) (ops : List OpD) : Prop := SlRep w0 v ops
theorem SlAt.op {w : World} {a : Option Addr} {xs : List OpD} (h : SlAt w a xs) {i : Nat} {x : OpD} (hx : xs[i]? = some x) :
    ∃ (b o : Nat) (da : Option Addr) (dc : Nat), a = some ⟨b, o, none⟩ ∧ w.cell? ⟨b, o + i * 3, none⟩ = some (.int .i64 x.kind) ∧ w.cell? ⟨b, o + i * 3 + 1, none⟩ = some (.int .i64 x.at_) ∧ w.cell? ⟨b, o + i * 3 + 2, none⟩ = some (.slice da x.data.length dc) ∧ SlRep w (.slice da x.data.length dc) x.data := by
  obtain ⟨b, o, cs, e, hr, hc⟩ := h.elem hx
  obtain ⟨v, rfl, hv⟩ := hc
  obtain ⟨da, dc, rfl, _⟩ := hv.ex
  exact ⟨b, o, da, dc, e, hr 0 _ rfl, hr 1 _ rfl, hr 2 _ rfl, hv⟩
def RunI (w0 w : World) (xb : Nat) (d : Disk) (ops : List OpD) (kb : Nat) (i : Value) (wr : World) : Prop :=
  ∃ (k : Nat) (dk : Disk), k ≤ ops.length ∧ i = .int .i64 k ∧ runOps (ops.drop k) dk k = runOps ops d 0 ∧ ExecW w0 wr xb dk ∧ dk.ok = true ∧ dk.cache.length + room (ops.drop k) ≤ 1000000 ∧
    wr.heap[kb]? = some (.cells #[.func (.func 54) #[.pointer (some ⟨xb, 0, none⟩)] #[], .func (.func 55) #[.pointer (some ⟨xb, 0, none⟩)] #[]] 122 (0, 0))
def RetRun (w0 : World) (xb : Nat) (d : Disk) (ops : List OpD) (e : Ending) (w' : World) : Prop :=
  ∃ d', e = .returned (.tuple #[.int .i64 (runOps ops d 0).2.1, .int .i64 (runOps ops d 0).2.2]) ∧ d' = (runOps ops d 0).1 ∧ ExecW w0 w' xb d'
set_option maxRecDepth 100000 in
set_option maxHeartbeats 4000000 in
theorem exec_run (w0 w : World) (xb : Nat) (d : Disk) (v : Value) (ops : List OpD) (h : ExecW w0 w xb d) (hv : SlRep w0 v ops) (hok : d.ok = true) (hroom : d.cache.length + room ops ≤ 1000000) (hat : ∀ o ∈ ops, -9223372036854775808 ≤ o.at_ ∧ o.at_ ≤ 9223372036854775807) :
    Calls Tryd.prog 39 #[.pointer (some ⟨xb, 0, none⟩), v] w (RetRun w0 xb d ops) := by
  obtain ⟨a, c, rfl, hs, hc1, hc2, _⟩ := hv.ex
  go_enter Tryd.func39, Tryd.ntmps39
  go_wp2
  obtain ⟨s0, c0, hx, ho, hB, hxb⟩ := h
  have hz : xb < w.heap.size := (Array.getElem?_eq_some_iff.1 hx).1
  have hbn : ∀ cs : Array Value, Below w.heap.size w (w.alloc (.cells cs 122)) := fun cs => below_alloc w _
  go_loopw [17] (fun i wr => RunI w0 w xb d ops w.heap.size i wr) (fun i _ => ops.length - (intOf i).toNat)
  case atStart => exact ⟨0, d, Nat.zero_le _, rfl, rfl, ⟨s0, c0, keepB (hbn _) hx, ⟨ho.1.below (hbn _), ho.2.below (hbn _)⟩, below_step hB (hbn _), hxb⟩, hok, hroom, heap_alloc_new w _⟩
  case round =>
    obtain ⟨k, dk, hk, rfl, hrun, he, hokk, hrm, kb⟩ := hrel
    by_cases hlt : k < ops.length
    · obtain ⟨op, hop⟩ : ∃ o, ops[k]? = some o := ⟨_, List.getElem?_eq_getElem hlt⟩
      have hBr : Below w0.heap.size w0 wr := he.choose_spec.choose_spec.2.2.1
      obtain ⟨b, o, da, dc, rfl, q0, q1, q2, hda⟩ := hs.op hop
      have q0 := keep hBr q0; have q1 := keep hBr q1; have q2 := keep hBr q2
      have hdr := runOps_drop ops k op dk hop
      have hrd := room_drop ops k op hop
      have hatk := hat op (List.mem_of_getElem? hop)
      have Q : Hid (stepOp dk op = stepOp dk op) := Lib.hid rfl
      have HDR := Lib.hid hdr; have HRD := Lib.hid hrd; have HRUN := Lib.hid hrun; have HRM := Lib.hid hrm; have HAT := Lib.hid hatk; have HE := Lib.hid he
      have HKB := Lib.hid kb
      clear hdr hrd hrun hrm hatk he hroom hop
      by_cases hbad : op.kind < 0 ∨ 2 ≤ op.kind
      · have hst : Hid (stepOp dk op = (1, dk)) := Lib.hid (by unfold stepOp; rw [if_pos hbad])
        have hfin : Hid (runOps ops d 0 = (dk, k, 1)) := Lib.hid (by rw [← HRUN.out, HDR.out, hst.out]; rfl)
        clear kb
        by_cases hneg : op.kind < 0
        · go_wp2
          go_ret2
          exact ⟨dk, by rw [hfin.out]; rfl, by rw [hfin.out], HE.out.below (below_alloc _ _)⟩
        · have hge : 2 ≤ op.kind := by omega
          go_wp2
          go_ret2
          exact ⟨dk, by rw [hfin.out]; rfl, by rw [hfin.out], HE.out.below (below_alloc _ _)⟩
      · have hk0 : op.kind = 0 ∨ op.kind = 1 := by omega
        rcases hk0 with h0 | h1
        · rw [h0] at q0
          have hb1 : Hid (dk.cache.length + op.data.length ≤ 1000000) := Lib.hid (by have := HRD.out; have := HRM.out; omega)
          have hb2 : Hid (dk.stable.length ≤ 4096) := Lib.hid (Disk.ok_get dk hokk).1
          go_wp2
          by_cases hin : insideB dk.stable.length op.at_ op.data.length = true
          · obtain ⟨d', hd'⟩ : ∃ d', d' = dk.puts op.at_ op.data := ⟨_, rfl⟩
            have hst : Hid (stepOp dk op = (0, d')) := Lib.hid (by unfold stepOp; rw [if_neg (by omega), if_pos h0, if_pos hin, hd'])
            have HIN := Lib.hid hin; have HD' := Lib.hid hd'; clear hin hd'
            have hba := below_alloc wr (.cells #[.int .i64 0, .int .i64 op.at_, .slice da op.data.length dc] 67)
            have ko := heap_alloc_new wr (.cells #[.int .i64 0, .int .i64 op.at_, .slice da op.data.length dc] 67)
            have km := keepB hba HKB.out
            generalize wr.alloc (.cells #[.int .i64 0, .int .i64 op.at_, .slice da op.data.length dc] 67) = W1 at *
            have hE1 : Hid (ExecW w0 W1.drew xb dk) := Lib.hid ((HE.out.below hba).below (below_drew _))
            have oc0 := cell_of_row W1 _ 0 _ _ _ ko
            have oc1 := cell_of_row W1 _ 1 _ _ _ ko
            have oc2 := cell_of_row W1 _ 2 _ _ _ ko
            have of0 := frozen_of_row W1 _ 0 _ _ ko
            have of1 := frozen_of_row W1 _ 1 _ _ ko
            have of2 := frozen_of_row W1 _ 2 _ _ ko
            simp at oc0 oc1 oc2
            have mc0 := cell_of_row W1 _ 0 _ _ _ km
            have mc1 := cell_of_row W1 _ 1 _ _ _ km
            have mf0 := frozen_of_row W1 _ 0 _ _ km
            have mf1 := frozen_of_row W1 _ 1 _ _ km
            simp at mc0 mc1
            have hzk : w.heap.size ≠ xb := by omega
            have hzo : wr.heap.size ≠ xb := by obtain ⟨_, _, hx', _⟩ := HE.out; have := (Array.getElem?_eq_some_iff.1 hx').1; omega
            have KO := Lib.hid (show W1.drew.heap[wr.heap.size]? = _ from ko); have KM := Lib.hid (show W1.drew.heap[w.heap.size]? = _ from km); clear ko km kb
            go_region_held3 (fun w' => w'.cell? ⟨wr.heap.size, 0, none⟩ = some (.int .i64 0) ∧ w'.cell? ⟨wr.heap.size, 1, none⟩ = some (.int .i64 op.at_) ∧ w'.cell? ⟨wr.heap.size, 2, none⟩ = some (.slice da op.data.length dc) ∧
                w'.cell? ⟨w.heap.size, 0, none⟩ = some (.func (.func 54) #[.pointer (some ⟨xb, 0, none⟩)] #[]) ∧ w'.cell? ⟨w.heap.size, 1, none⟩ = some (.func (.func 55) #[.pointer (some ⟨xb, 0, none⟩)] #[]))
              (first | go_keep | exact ⟨(keepT_cell hk3 KO.out hzo (by decide)).trans oc0, (keepT_cell hk3 KO.out hzo (by decide)).trans oc1, (keepT_cell hk3 KO.out hzo (by decide)).trans oc2, (keepT_cell hk3 KM.out hzk (by decide)).trans mc0, (keepT_cell hk3 KM.out hzk (by decide)).trans mc1⟩)
              ((go_at_call 54; refine (exec_write w0 _ xb dk 0 op.at_ da dc op.data hE1.out hda HAT.out hb1.out hb2.out).mono ?_; rintro e w3 ⟨r, d2, rfl, hr, he3, hk3⟩; rw [if_pos HIN.out] at hr; obtain ⟨rfl, rfl⟩ := hr; rw [← HD'.out] at he3))
            have hkm := hk3.2 _ _ _ _ KM.out hzk (by decide)
            have hst0 := stepOp_room dk op
            have hsto := stepOp_ok dk op hokk
            rw [hst.out] at hst0 hsto
            have hnx : runOps (ops.drop (k + 1)) d' (k + 1) = runOps ops d 0 := by rw [← HRUN.out, HDR.out, hst.out]; rfl
            have HNX := Lib.hid hnx; have HST0 := Lib.hid hst0; have HSTO := Lib.hid hsto; have HKM := Lib.hid hkm; clear hnx hst0 hsto hkm
            go_wp2
            go_roundw
            case rel => exact ⟨k + 1, d', by omega, by go_num, HNX.out, he3, HSTO.out, by have := HRD.out; have := HRM.out; have := HST0.out; simp only at this; omega, HKM.out⟩
            case measure => simp [intOf]; omega
          · have hst : Hid (stepOp dk op = (2, dk)) := Lib.hid (by unfold stepOp; rw [if_neg (by omega), if_pos h0, if_neg hin])
            have hfin : Hid (runOps ops d 0 = (dk, k, 2)) := Lib.hid (by rw [← HRUN.out, HDR.out, hst.out]; rfl)
            have HIN := Lib.hid hin; clear hin
            have hba := below_alloc wr (.cells #[.int .i64 0, .int .i64 op.at_, .slice da op.data.length dc] 67)
            have ko := heap_alloc_new wr (.cells #[.int .i64 0, .int .i64 op.at_, .slice da op.data.length dc] 67)
            have km := keepB hba HKB.out
            generalize wr.alloc (.cells #[.int .i64 0, .int .i64 op.at_, .slice da op.data.length dc] 67) = W1 at *
            have hE1 : Hid (ExecW w0 W1.drew xb dk) := Lib.hid ((HE.out.below hba).below (below_drew _))
            have oc0 := cell_of_row W1 _ 0 _ _ _ ko
            have oc1 := cell_of_row W1 _ 1 _ _ _ ko
            have oc2 := cell_of_row W1 _ 2 _ _ _ ko
            have of0 := frozen_of_row W1 _ 0 _ _ ko
            have of1 := frozen_of_row W1 _ 1 _ _ ko
            have of2 := frozen_of_row W1 _ 2 _ _ ko
            simp at oc0 oc1 oc2
            have mc0 := cell_of_row W1 _ 0 _ _ _ km
            have mc1 := cell_of_row W1 _ 1 _ _ _ km
            have mf0 := frozen_of_row W1 _ 0 _ _ km
            have mf1 := frozen_of_row W1 _ 1 _ _ km
            simp at mc0 mc1
            have hzk : w.heap.size ≠ xb := by omega
            have hzo : wr.heap.size ≠ xb := by obtain ⟨_, _, hx', _⟩ := HE.out; have := (Array.getElem?_eq_some_iff.1 hx').1; omega
            have KO := Lib.hid (show W1.drew.heap[wr.heap.size]? = _ from ko); have KM := Lib.hid (show W1.drew.heap[w.heap.size]? = _ from km); clear ko km kb
            go_region_held3 (fun w' => w'.cell? ⟨wr.heap.size, 0, none⟩ = some (.int .i64 0) ∧ w'.cell? ⟨wr.heap.size, 1, none⟩ = some (.int .i64 op.at_) ∧ w'.cell? ⟨wr.heap.size, 2, none⟩ = some (.slice da op.data.length dc) ∧
                w'.cell? ⟨w.heap.size, 0, none⟩ = some (.func (.func 54) #[.pointer (some ⟨xb, 0, none⟩)] #[]) ∧ w'.cell? ⟨w.heap.size, 1, none⟩ = some (.func (.func 55) #[.pointer (some ⟨xb, 0, none⟩)] #[]))
              (first | go_keep | exact ⟨(keepT_cell hk3 KO.out hzo (by decide)).trans oc0, (keepT_cell hk3 KO.out hzo (by decide)).trans oc1, (keepT_cell hk3 KO.out hzo (by decide)).trans oc2, (keepT_cell hk3 KM.out hzk (by decide)).trans mc0, (keepT_cell hk3 KM.out hzk (by decide)).trans mc1⟩)
              ((go_at_call 54; refine (exec_write w0 _ xb dk 0 op.at_ da dc op.data hE1.out hda HAT.out hb1.out hb2.out).mono ?_; rintro e w3 ⟨r, d2, rfl, hr, he3, hk3⟩; rw [if_neg HIN.out] at hr; obtain ⟨rfl, rfl⟩ := hr))
            have hkm := hk3.2 _ _ _ _ KM.out hzk (by decide)
            clear hkm
            go_wp2
            go_ret2
            exact ⟨_, by rw [hfin.out]; rfl, by rw [hfin.out], he3⟩
        · rw [h1] at q0
          go_wp2
          obtain ⟨d', hd'⟩ : ∃ d' : Disk, d' = ⟨dk.newest, []⟩ := ⟨_, rfl⟩
          have hst : Hid (stepOp dk op = (0, d')) := Lib.hid (by unfold stepOp; rw [if_neg (by omega), if_neg (by omega), hd'])
          have HD' := Lib.hid hd'; clear hd'
          have hba := below_alloc wr (.cells #[.int .i64 1, .int .i64 op.at_, .slice da op.data.length dc] 67)
          have ko := heap_alloc_new wr (.cells #[.int .i64 1, .int .i64 op.at_, .slice da op.data.length dc] 67)
          have km := keepB hba HKB.out
          generalize wr.alloc (.cells #[.int .i64 1, .int .i64 op.at_, .slice da op.data.length dc] 67) = W1 at *
          have hE1 : Hid (ExecW w0 W1.drew xb dk) := Lib.hid ((HE.out.below hba).below (below_drew _))
          have oc0 := cell_of_row W1 _ 0 _ _ _ ko
          have oc1 := cell_of_row W1 _ 1 _ _ _ ko
          have oc2 := cell_of_row W1 _ 2 _ _ _ ko
          have of0 := frozen_of_row W1 _ 0 _ _ ko
          have of1 := frozen_of_row W1 _ 1 _ _ ko
          have of2 := frozen_of_row W1 _ 2 _ _ ko
          simp at oc0 oc1 oc2
          have mc0 := cell_of_row W1 _ 0 _ _ _ km
          have mc1 := cell_of_row W1 _ 1 _ _ _ km
          have mf0 := frozen_of_row W1 _ 0 _ _ km
          have mf1 := frozen_of_row W1 _ 1 _ _ km
          simp at mc0 mc1
          have hzk : w.heap.size ≠ xb := by omega
          have hzo : wr.heap.size ≠ xb := by obtain ⟨_, _, hx', _⟩ := HE.out; have := (Array.getElem?_eq_some_iff.1 hx').1; omega
          have KO := Lib.hid (show W1.drew.heap[wr.heap.size]? = _ from ko); have KM := Lib.hid (show W1.drew.heap[w.heap.size]? = _ from km); clear ko km kb
          go_region_held3 (fun w' => w'.cell? ⟨wr.heap.size, 0, none⟩ = some (.int .i64 1) ∧ w'.cell? ⟨wr.heap.size, 1, none⟩ = some (.int .i64 op.at_) ∧ w'.cell? ⟨wr.heap.size, 2, none⟩ = some (.slice da op.data.length dc) ∧
              w'.cell? ⟨w.heap.size, 0, none⟩ = some (.func (.func 54) #[.pointer (some ⟨xb, 0, none⟩)] #[]) ∧ w'.cell? ⟨w.heap.size, 1, none⟩ = some (.func (.func 55) #[.pointer (some ⟨xb, 0, none⟩)] #[]))
            (first | go_keep | exact ⟨(keepT_cell hk3 KO.out hzo (by decide)).trans oc0, (keepT_cell hk3 KO.out hzo (by decide)).trans oc1, (keepT_cell hk3 KO.out hzo (by decide)).trans oc2, (keepT_cell hk3 KM.out hzk (by decide)).trans mc0, (keepT_cell hk3 KM.out hzk (by decide)).trans mc1⟩)
            ((go_at_call 55; refine (exec_sync w0 _ xb dk 1 op.at_ da op.data.length dc hE1.out hokk).mono ?_; rintro e w3 ⟨rfl, he3, hk3⟩; rw [← HD'.out] at he3))
          have hkm := hk3.2 _ _ _ _ KM.out hzk (by decide)
          have hst0 := stepOp_room dk op
          have hsto := stepOp_ok dk op hokk
          rw [hst.out] at hst0 hsto
          have hnx : runOps (ops.drop (k + 1)) d' (k + 1) = runOps ops d 0 := by rw [← HRUN.out, HDR.out, hst.out]; rfl
          have HNX := Lib.hid hnx; have HST0 := Lib.hid hst0; have HSTO := Lib.hid hsto; have HKM := Lib.hid hkm; clear hnx hst0 hsto hkm
          go_wp2
          go_roundw
          case rel => exact ⟨k + 1, d', by omega, by go_num, HNX.out, he3, HSTO.out, by have := HRD.out; have := HRM.out; have := HST0.out; simp only at this; omega, HKM.out⟩
          case measure => simp [intOf]; omega
    · obtain rfl : k = ops.length := by omega
      have hfin : Hid (runOps ops d 0 = (dk, ops.length, 0)) := Lib.hid (by rw [← hrun, List.drop_length]; rfl)
      clear kb hrun
      go_wp2
      go_ret2
      exact ⟨dk, by rw [hfin.out]; rfl, by rw [hfin.out], he⟩
end Go.Proofs.YtnddgpkljpjjbaaDoor
