/- the executor's write. -/
import Derived.Test.YtnddgpkljpjjbaaDoorRun0
namespace Go.Proofs.YtnddgpkljpjjbaaDoor
open Go.RowKit
set_option linter.unusedVariables false
set_option linter.unusedSimpArgs false
theorem SlRep.slat {α : Type} [Rep α] {w : World} {a : Option Addr} {n c : Nat} {xs : List α} (h : SlRep w (.slice a n c) xs) : SlAt w a xs := by
  obtain ⟨a', c', he, hs, _⟩ := h.ex
  injection he with e1 _ _
  subst e1
  exact hs
theorem cached_is {w : World} (p : Int) (x : Sec) : Rep.is w (#[Value.int .i64 p, .int .u8 x.b0.toNat, .int .u8 x.b1.toNat, .int .u8 x.b2.toNat, .int .u8 x.b3.toNat, .int .u8 x.b4.toNat, .int .u8 x.b5.toNat, .int .u8 x.b6.toNat, .int .u8 x.b7.toNat] : Array Value).toList (⟨p, x⟩ : Cached) := rfl
theorem keepT_grown {α : Type} [Rep α] {base : Nat} {t : TypeId} {xb : Nat} {w w' : World} {v : Value} {xs : List α} (hg : w.grownBy w' v.ownBlock) (h : Own base t w v xs) : KeepT t xb w w' :=
  ⟨hg.size, fun k cs t' fz h1 _ h3 => keepG hg h1 (fun e => h.other_type h1 h3 e.symm)⟩
theorem own_apart {α β : Type} [Rep α] [Rep β] {B B' : Nat} {e e' : TypeId} {w : World} {v v' : Value} {xs : List α} {ys : List β} (h : Own B e w v xs) (h' : Own B' e' w v' ys) (hne : e ≠ e') : v.ownBlock = none ∨ v.ownBlock ≠ v'.ownBlock := by
  obtain ⟨css, h0, h1, hh⟩ := h.ex
  rcases hh.2 with ⟨rfl, _⟩ | ⟨g, cap, cur, rfl, _, hgb, _⟩
  · exact .inl rfl
  · refine .inr fun e1 => h'.other_type hgb hne ?_
    rw [← e1]; rfl
def RetWrite (w0 w : World) (xb : Nat) (d : Disk) (p : Int) (data : List Sec) (e : Ending) (w' : World) : Prop :=
  ∃ r d', e = .returned (.int .i64 r) ∧ (if insideB d.stable.length p data.length = true then r = 0 ∧ d' = d.puts p data else r = 2 ∧ d' = d) ∧ ExecW w0 w' xb d' ∧ KeepT 109 xb w w'
def WrI (w0 w : World) (xb : Nat) (d : Disk) (k p : Int) (da : Option Addr) (dc : Nat) (data : List Sec) (sa : Option Addr) (sn : Nat) (i : Value) (wr : World) : Prop :=
  ∃ (j : Nat) (cv : Value), j ≤ data.length ∧ i = .int .i64 j ∧ wr.heap[w.heap.size]? = some (.cells #[.int .i64 k, .int .i64 p, .slice da data.length dc] 67 (0, 0)) ∧ wr.heap[xb]? = some (.cells #[.slice sa d.stable.length sn, cv] 90 (0, 0)) ∧ Own w0.heap.size 57 wr (.slice sa d.stable.length sn) d.stable ∧ Own w0.heap.size 109 wr cv (d.cache ++ (putsAt p data).take j) ∧ Below w0.heap.size w0 wr ∧ KeepT 109 xb w wr
set_option maxRecDepth 100000 in
set_option maxHeartbeats 4000000 in
theorem exec_write (w0 w : World) (xb : Nat) (d : Disk) (k p : Int) (da : Option Addr) (dc : Nat) (data : List Sec) (h : ExecW w0 w xb d) (hd0 : SlRep w0 (.slice da data.length dc) data) (hp : -9223372036854775808 ≤ p ∧ p ≤ 9223372036854775807) (hlen : d.cache.length + data.length ≤ 1000000) (hst : d.stable.length ≤ 4096) :
    Calls Tryd.prog 54 #[.pointer (some ⟨xb, 0, none⟩), .agg #[.int .i64 k, .int .i64 p, .slice da data.length dc]] w (RetWrite w0 w xb d p data) := by
  obtain ⟨s, c, hx, ⟨ho1, ho2⟩, hB, hxb⟩ := h
  have hd : DiskRep w (.agg #[s, c]) d := ⟨s, c, rfl, ho1.sl, ho2.sl⟩
  obtain ⟨sa, sn, rfl, _⟩ := ho1.sl.ex
  obtain ⟨ca, cn, rfl, _⟩ := ho2.sl.ex
  have hz : xb < w.heap.size := (Array.getElem?_eq_some_iff.1 hx).1
  go_enter Tryd.func54, Tryd.ntmps54
  go_wp2
  have kb := heap_alloc_new w (.cells #[.int .i64 k, .int .i64 p, .slice da data.length dc] 67)
  have kx := keepB (below_alloc w (.cells #[.int .i64 k, .int .i64 p, .slice da data.length dc] 67)) hx
  have hb0 := below_alloc w (.cells #[.int .i64 k, .int .i64 p, .slice da data.length dc] 67)
  generalize w.alloc (.cells #[.int .i64 k, .int .i64 p, .slice da data.length dc] 67) = W0 at *
  have bc0 := cell_of_row W0 _ 0 _ _ _ kb
  have bc1 := cell_of_row W0 _ 1 _ _ _ kb
  have bc2 := cell_of_row W0 _ 2 _ _ _ kb
  have bf0 := frozen_of_row W0 _ 0 _ _ kb
  have bf1 := frozen_of_row W0 _ 1 _ _ kb
  have bf2 := frozen_of_row W0 _ 2 _ _ kb
  simp at bc0 bc1 bc2
  have xc0 := cell_of_row W0 _ 0 _ _ _ kx
  have xc1 := cell_of_row W0 _ 1 _ _ _ kx
  have xf0 := frozen_of_row W0 _ 0 _ _ kx
  have xf1 := frozen_of_row W0 _ 1 _ _ kx
  simp at xc0 xc1
  have HKB := Lib.hid kb; have HKX := Lib.hid kx; clear kb kx
  go_region_held3 (fun w' => w'.cell? ⟨xb, 0, none⟩ = some (.slice sa d.stable.length sn) ∧ w'.cell? ⟨xb, 1, none⟩ = some (.slice ca d.cache.length cn) ∧ w'.cell? ⟨w.heap.size, 1, none⟩ = some (.int .i64 p) ∧ w'.cell? ⟨w.heap.size, 2, none⟩ = some (.slice da data.length dc))
    (first | go_keep | exact ⟨keep hb3 xc0, keep hb3 xc1, keep hb3 bc1, keep hb3 bc2⟩)
    ((go_at_call 57; refine (disk_inside _ d p data.length _ ((hd.below hb0).below (below_drew _))).mono ?_; rintro e w3 ⟨rfl, hb3⟩))
  have kb := keepB hb3 (show W0.drew.heap[w.heap.size]? = _ from HKB.out)
  have kx := keepB hb3 (show W0.drew.heap[xb]? = _ from HKX.out)
  have hB3 : Below w.heap.size w w3 := below_step (below_step hb0 (below_drew _)) hb3
  have hda := hd0.slat
  clear bc0 bc1 bc2 bf0 bf1 bf2 xc0 xc1 xf0 xf1
  by_cases hin : insideB d.stable.length p data.length = true
  · have hpb : 0 ≤ p ∧ p ≤ 4096 := by simp [insideB] at hin; omega
    have HIN := Lib.hid hin
    rw [hin]
    simp only [Bool.not_true]
    clear hin
    have bc0 := cell_of_row w3 _ 0 _ _ _ kb
    have bc1 := cell_of_row w3 _ 1 _ _ _ kb
    have bc2 := cell_of_row w3 _ 2 _ _ _ kb
    have bf0 := frozen_of_row w3 _ 0 _ _ kb
    have bf1 := frozen_of_row w3 _ 1 _ _ kb
    have bf2 := frozen_of_row w3 _ 2 _ _ kb
    simp at bc0 bc1 bc2
    have HKB3 := Lib.hid kb; have HKX3 := Lib.hid kx; clear kb kx
    have hz3 : w.heap.size < w3.heap.size := (Array.getElem?_eq_some_iff.1 HKB3.out).1
    go_wp2
    go_loopw [21] (fun i wr => WrI w0 w xb d k p da dc data sa sn i wr)
      (fun i _ => data.length - (intOf i).toNat)
    case atStart => exact ⟨0, _, Nat.zero_le _, rfl, HKB3.out, HKX3.out, ho1.below hB3, by simpa using ho2.below hB3, below_step hB hB3, KeepT.of_below hB3⟩
    case round =>
      obtain ⟨j, cv, hj, rfl, kb, kx, hs, hc, hBr, hK⟩ := hrel
      clear bc0 bc1 bc2 bf0 bf1 bf2
      by_cases hlt : j < data.length
      · obtain ⟨x, hx'⟩ : ∃ x, data[j]? = some x := ⟨_, List.getElem?_eq_getElem hlt⟩
        obtain ⟨b, o, rfl, hsec⟩ := (hda.below hBr).sec hx'
        obtain ⟨q0, q1, q2, q3, q4, q5, q6, q7⟩ := hsec
        have HX := Lib.hid (putsAt_get data p j x hx'); clear hx'
        have hz' : xb < wr.heap.size := (Array.getElem?_eq_some_iff.1 kx).1
        have hz2 : w.heap.size < wr.heap.size := (Array.getElem?_eq_some_iff.1 kb).1
        have hpl := putsAt_length data p
        have hjl : ((putsAt p data).take j).length = j := by rw [List.length_take, hpl]; omega
        have HJL := Lib.hid hjl; clear hjl hpl
        have HKB4 := Lib.hid kb; have HKX4 := Lib.hid kx; clear kb kx
        go_wp2
        have ks := heap_alloc_new wr (.cells #[.int .u8 x.b0.toNat, .int .u8 x.b1.toNat, .int .u8 x.b2.toNat, .int .u8 x.b3.toNat, .int .u8 x.b4.toNat, .int .u8 x.b5.toNat, .int .u8 x.b6.toNat, .int .u8 x.b7.toNat] 57)
        have hba := below_alloc wr (.cells #[.int .u8 x.b0.toNat, .int .u8 x.b1.toNat, .int .u8 x.b2.toNat, .int .u8 x.b3.toNat, .int .u8 x.b4.toNat, .int .u8 x.b5.toNat, .int .u8 x.b6.toNat, .int .u8 x.b7.toNat] 57)
        have kb := keepB hba HKB4.out
        have kx := keepB hba HKX4.out
        clear q0 q1 q2 q3 q4 q5 q6 q7
        generalize wr.alloc (.cells #[.int .u8 x.b0.toNat, .int .u8 x.b1.toNat, .int .u8 x.b2.toNat, .int .u8 x.b3.toNat, .int .u8 x.b4.toNat, .int .u8 x.b5.toNat, .int .u8 x.b6.toNat, .int .u8 x.b7.toNat] 57) = W1 at *
        have bc0 := cell_of_row W1 _ 0 _ _ _ kb
        have bc1 := cell_of_row W1 _ 1 _ _ _ kb
        have bc2 := cell_of_row W1 _ 2 _ _ _ kb
        have bf0 := frozen_of_row W1 _ 0 _ _ kb
        have bf1 := frozen_of_row W1 _ 1 _ _ kb
        have bf2 := frozen_of_row W1 _ 2 _ _ kb
        simp at bc0 bc1 bc2
        have xc0 := cell_of_row W1 _ 0 _ _ _ kx
        have xc1 := cell_of_row W1 _ 1 _ _ _ kx
        have xf0 := frozen_of_row W1 _ 0 _ _ kx
        have xf1 := frozen_of_row W1 _ 1 _ _ kx
        simp at xc0 xc1
        have sc0 := cell_of_row W1 _ 0 _ _ _ ks
        have sc1 := cell_of_row W1 _ 1 _ _ _ ks
        have sc2 := cell_of_row W1 _ 2 _ _ _ ks
        have sc3 := cell_of_row W1 _ 3 _ _ _ ks
        have sc4 := cell_of_row W1 _ 4 _ _ _ ks
        have sc5 := cell_of_row W1 _ 5 _ _ _ ks
        have sc6 := cell_of_row W1 _ 6 _ _ _ ks
        have sc7 := cell_of_row W1 _ 7 _ _ _ ks
        have sf0 := frozen_of_row W1 _ 0 _ _ ks
        have sf1 := frozen_of_row W1 _ 1 _ _ ks
        have sf2 := frozen_of_row W1 _ 2 _ _ ks
        have sf3 := frozen_of_row W1 _ 3 _ _ ks
        have sf4 := frozen_of_row W1 _ 4 _ _ ks
        have sf5 := frozen_of_row W1 _ 5 _ _ ks
        have sf6 := frozen_of_row W1 _ 6 _ _ ks
        have sf7 := frozen_of_row W1 _ 7 _ _ ks
        simp at sc0 sc1 sc2 sc3 sc4 sc5 sc6 sc7
        have HKX5 := Lib.hid kx; have HKB5 := Lib.hid kb; have HKS5 := Lib.hid ks; clear kb kx ks
        have hcv := (hc.below hba).below (below_drew W1)
        obtain ⟨cva, cvn, he, _⟩ := hc.sl.ex
        obtain ⟨m, hm⟩ : ∃ m, m = (d.cache ++ (putsAt p data).take j).length := ⟨_, rfl⟩
        rw [← hm] at he
        subst he
        have HM := Lib.hid hm; clear hm
        have l0 : (d.cache ++ (putsAt p data).take j).length ≤ 1000000 := by rw [List.length_append, HJL.out]; omega
        have L1 := Lib.hid (show (d.cache ++ (putsAt p data).take j).length + [(⟨p + j, x⟩ : Cached)].length ≤ 9223372036854775807 by simp only [List.length_singleton]; omega)
        have L2 := Lib.hid (show ((d.cache ++ (putsAt p data).take j).length + [(⟨p + j, x⟩ : Cached)].length) * 16 ≤ 140737488355328 by simp only [List.length_singleton]; omega)
        have L3 := Lib.hid (show ∀ o, w0.heap.size ≤ (W1.drew.alloc o).heap.size by intro o; rw [World.size_alloc]; have := hBr.size; have := hba.size; exact Nat.le_succ_of_le (by show w0.heap.size ≤ W1.heap.size; omega))
        have L3' := Lib.hid (show w0.heap.size ≤ W1.drew.heap.size by have := hBr.size; have := hba.size; show w0.heap.size ≤ W1.heap.size; omega)
        have hne1 := own_apart ((hs.below hba).below (below_drew W1)) hcv (by decide)
        have hzW : xb < W1.heap.size := Nat.lt_of_lt_of_le hz' hba.size
        have hzW2 : w.heap.size < W1.heap.size := Nat.lt_of_lt_of_le hz2 hba.size
        have hzW3 : wr.heap.size < W1.heap.size := (Array.getElem?_eq_some_iff.1 HKS5.out).1
        have hpj : IntKind.i64.wrap (p + (j : Int)) = p + (j : Int) := IntWalk.i64_in _ (by omega)
        go_region_law (refine step_append_Own (α := Cached) rfl (.tmp 31) (.tmp 38) 33 109 rfl 16 elCached w0.heap.size (.slice cva m cvn) (.slice (some ⟨W1.heap.size, 0, none⟩) 1 1) (d.cache ++ (putsAt p data).take j) [⟨p + j, x⟩] rfl (hcv.below (below_alloc _ _)) rfl (SlRep.single' (w := W1.drew) (x := (⟨p + j, x⟩ : Cached)) (b := W1.heap.size) rfl (cached_is _ _)) L1.out L2.out (L3.out _) ?_; intro v5 w5 ho5 hg5 _; obtain ⟨g5, c5, rfl, _, _, _, _⟩ := ho5.shape (by simp; omega); have kx5 := keepG hg5 (keepB (below_alloc W1.drew _) (show W1.drew.heap[xb]? = _ from HKX5.out)) (fun e => hcv.other_type (show W1.drew.heap[xb]? = _ from HKX5.out) (by decide) e.symm); have yc0 := cell_of_row w5 _ 0 _ _ _ kx5; have yc1 := cell_of_row w5 _ 1 _ _ _ kx5; have yf0 := frozen_of_row w5 _ 0 _ _ kx5; have yf1 := frozen_of_row w5 _ 1 _ _ kx5; simp at yc0 yc1)
        all_goals
          have hne : (Value.slice cva m cvn).ownBlock ≠ some w.heap.size := hcv.other_type (show W1.drew.heap[w.heap.size]? = _ from HKB5.out) (by decide)
          have hBw : Below w0.heap.size w0 w5 := ((below_step (below_step hBr hba) (below_drew W1)).alloc (L3'.out) _).grown hg5 (L3.out _) (fun q hq => hcv.base q hq)
          have hg5b : g5 ≠ xb := fun e => by
            subst e
            exact ho5.other_type kx5 (by decide) rfl
          go_wp2
          go_roundw
          case rel =>
            refine ⟨j + 1, _, by omega, by go_num, (block_set (by omega)).trans (keepG hg5 (keepB (below_alloc W1.drew _) (show W1.drew.heap[w.heap.size]? = _ from HKB5.out)) (fun e => hne e.symm)), heap_two1 kx5, ?_, ?_, hBw.setCell (p := ⟨xb, 1, none⟩) hxb _, ?_⟩
            · exact ((((hs.below hba).below (below_drew W1)).below (below_alloc W1.drew _)).grown hg5 hne1).grown (grown_setCell w5 xb 1 _) (.inr (fun e => (((((hs.below hba).below (below_drew W1)).below (below_alloc W1.drew _)).grown hg5 hne1).other_type kx5 (by decide)) e))
            · have el : (d.cache ++ (putsAt p data).take j ++ [(⟨p + j, x⟩ : Cached)]).length = d.cache.length + (min j (putsAt p data).length + 1) := by simp [Nat.add_assoc]
              rw [el] at ho5
              rw [take_snoc _ j _ HX.out, ← List.append_assoc]
              exact ho5.grown (grown_setCell w5 xb 1 _) (.inr (fun e => hg5b (by injection e)))
            · exact (((hK.trans (KeepT.of_below hba)).trans (KeepT.of_below (below_drew W1))).trans ((KeepT.of_below (below_alloc W1.drew _)).trans (keepT_grown hg5 (hcv.below (below_alloc W1.drew _))))).trans KeepT.set
          case measure => simp [intOf]; omega
      · obtain rfl : j = data.length := by omega
        have hT : (putsAt p data).take data.length = putsAt p data := List.take_of_length_le (by rw [putsAt_length]; omega)
        rw [hT] at hc
        clear kb
        go_wp2
        go_ret
        exact ⟨0, d.puts p data, rfl, by rw [if_pos HIN.out]; exact ⟨rfl, rfl⟩, ⟨_, _, kx, ⟨hs, hc⟩, hBr, hxb⟩, hK⟩
  · have hin' : insideB d.stable.length p data.length = false := by simpa using hin
    have HIN := Lib.hid hin
    rw [hin']
    simp only [Bool.not_false]
    clear hin hin'
    go_wp2
    go_ret
    exact ⟨2, d, rfl, by rw [if_neg HIN.out]; exact ⟨rfl, rfl⟩, ⟨_, _, kx, ⟨ho1.below hB3, ho2.below hB3⟩, below_step hB hB3, hxb⟩, KeepT.of_below hB3⟩
end Go.Proofs.YtnddgpkljpjjbaaDoor
