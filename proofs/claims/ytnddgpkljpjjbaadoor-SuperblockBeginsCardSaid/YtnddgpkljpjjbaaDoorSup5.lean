/- superblock.find. -/
import Derived.Test.YtnddgpkljpjjbaaDoorSup4
namespace Go.Proofs.YtnddgpkljpjjbaaDoor
open Go.RowKit
set_option linter.unusedVariables false
set_option linter.unusedSimpArgs false
def supAll (d : Disk) (p : Nat) : List Sec := (d.newest.drop p).take 16
def supA (d : Disk) (p : Nat) : List Sec := (supAll d p).take 8
def supB (d : Disk) (p : Nat) : List Sec := (supAll d p).drop 8
def supNew (d : Disk) (p : Nat) : Nat := if copyGen (supA d p) < copyGen (supB d p) then 1 else 0
def supGen (d : Disk) (p : Nat) : Nat := if copyGen (supA d p) < copyGen (supB d p) then copyGen (supB d p) else copyGen (supA d p)
def supPay (d : Disk) (p : Nat) : List UInt8 := if copyGen (supA d p) < copyGen (supB d p) then copyPay (supB d p) else copyPay (supA d p)
theorem supAll_length (d : Disk) (p : Nat) (h : p + 16 ≤ d.stable.length) : (supAll d p).length = 16 := by
  have : d.newest.length = d.stable.length := putAll_length _ _
  rw [supAll, List.length_take, List.length_drop, this]; omega
theorem below_set6 {B : Nat} {w0 w : World} (h : Below B w0 w) (g : Nat) (hg : B ≤ g) (a b c d e f : Value) :
    Below B w0 ((((((w.setCell ⟨g, 0, none⟩ a).setCell ⟨g, 1, none⟩ b).setCell ⟨g, 2, none⟩ c).setCell ⟨g, 3, none⟩ d).setCell ⟨g, 4, none⟩ e).setCell ⟨g, 5, none⟩ f) :=
  (((below_set3 h g hg a b c).setCell (p := ⟨g, 3, none⟩) hg _).setCell (p := ⟨g, 4, none⟩) hg _).setCell (p := ⟨g, 5, none⟩) hg _
/-- A slice of bytes or sectors does not lie in a block that holds no byte. -/
theorem SlRep.other8 {α : Type} [PlainRep α] (h8 : ∀ (w : World) (cs : List Value) (x : α), Rep.is w cs x → ∀ u ∈ cs, ∃ n, u = .int .u8 n) {w w' : World} {g : Nat} {cs : Array Value} {t : TypeId} {fr : Nat × Nat}
    (hg : w.heap[g]? = some (.cells cs t fr)) (hno : ∀ u ∈ cs.toList, ∀ n, u ≠ .int .u8 n) (hw : ∀ k, k ≠ g → w'.heap[k]? = w.heap[k]?) {v : Value} {xs : List α} (h : SlRep w v xs) : SlRep w' v xs := by
  obtain ⟨a, c, rfl, hs, hr⟩ := h.ex
  refine ⟨a, c, rfl, fun hne => ?_, hr⟩
  obtain ⟨b, o, rfl, hx⟩ := hs hne
  refine ⟨b, o, rfl, fun i x hi => ?_⟩
  obtain ⟨ds, h1, h2⟩ := hx i x hi
  refine ⟨ds, fun j u hu => ?_, PlainRep.free h2⟩
  have hc := h1 j u hu
  by_cases hb : b = g
  · subst hb
    obtain ⟨n, rfl⟩ := h8 w ds x h2 u (List.mem_of_getElem? hu)
    rw [cell_of_row w b _ cs t fr hg] at hc
    exact absurd rfl (hno _ (by have := Array.mem_of_getElem? hc; simpa using this) n)
  · exact (World.cell?_of_block (w := w) (hw b hb)).trans hc
theorem is8_u8 (w : World) (cs : List Value) (x : UInt8) (h : Rep.is w cs x) : ∀ u ∈ cs, ∃ n, u = .int .u8 n := by
  obtain rfl : cs = [.int .u8 x.toNat] := h
  intro u hu; simp at hu; exact ⟨_, hu⟩
theorem is8_sec (w : World) (cs : List Value) (x : Sec) (h : Rep.is w cs x) : ∀ u ∈ cs, ∃ n, u = .int .u8 n := by
  obtain rfl : cs = x.cells := h
  intro u hu
  simp only [Sec.cells, List.mem_cons, List.not_mem_nil, or_false] at hu
  rcases hu with h | h | h | h | h | h | h | h <;> exact ⟨_, h⟩
theorem block_set6 {w : World} {g k : Nat} (h : k ≠ g) (a b c d e f : Value) :
    ((((((w.setCell ⟨g, 0, none⟩ a).setCell ⟨g, 1, none⟩ b).setCell ⟨g, 2, none⟩ c).setCell ⟨g, 3, none⟩ d).setCell ⟨g, 4, none⟩ e).setCell ⟨g, 5, none⟩ f).heap[k]? = w.heap[k]? :=
  (block_set h).trans ((block_set h).trans ((block_set h).trans ((block_set h).trans ((block_set h).trans (block_set h)))))
/-- What the end of find does to memory. -/
structure FindW (B : Nat) (w3 w' : World) : Prop where
  u8 : ∀ v (xs : List UInt8), SlRep w3 v xs → SlRep w' v xs
  sec : ∀ v (xs : List Sec), SlRep w3 v xs → SlRep w' v xs
  bel : ∀ w, Below B w w3 → Below B w w'
theorem no6 (x y : Int) : ∀ u ∈ (#[.int .i64 0, .slice none 0 0, .slice none 0 0, .int .i64 0, .slice none 0 0, .slice none 0 0] : Array Value).toList, ∀ n, u ≠ .int .u8 n := by simp
theorem fw_set {B : Nat} {w3 : World} {g : Nat} {t : TypeId} (hg : w3.heap[g]? = some (.cells #[.int .i64 0, .slice none 0 0, .slice none 0 0, .int .i64 0, .slice none 0 0, .slice none 0 0] t (0, 0))) (hB : B ≤ g) (a b c d e f : Value) :
    FindW B w3 ((((((w3.setCell ⟨g, 0, none⟩ a).setCell ⟨g, 1, none⟩ b).setCell ⟨g, 2, none⟩ c).setCell ⟨g, 3, none⟩ d).setCell ⟨g, 4, none⟩ e).setCell ⟨g, 5, none⟩ f) :=
  ⟨fun v xs h => SlRep.other8 is8_u8 hg (no6 0 0) (fun k hk => block_set6 hk a b c d e f) h, fun v xs h => SlRep.other8 is8_sec hg (no6 0 0) (fun k hk => block_set6 hk a b c d e f) h, fun w h => below_set6 h g hB a b c d e f⟩
theorem fw_last {B : Nat} {w3 : World} {g : Nat} {t : TypeId} (hg : w3.heap[g]? = some (.cells #[.int .i64 0, .slice none 0 0, .slice none 0 0, .int .i64 0, .slice none 0 0, .slice none 0 0] t (0, 0))) (hB : B ≤ g) (a b c d e f : Value) (o : Obj) :
    FindW B w3 (((((((w3.setCell ⟨g, 0, none⟩ a).setCell ⟨g, 1, none⟩ b).setCell ⟨g, 2, none⟩ c).setCell ⟨g, 3, none⟩ d).setCell ⟨g, 4, none⟩ e).setCell ⟨g, 5, none⟩ f).alloc o) := by
  have F := fw_set hg hB a b c d e f
  exact ⟨fun v xs h => (F.u8 v xs h).below (below_alloc _ _), fun v xs h => (F.sec v xs h).below (below_alloc _ _), fun w h => (F.bel w h).alloc (by have := (Array.getElem?_eq_some_iff.1 hg).1; simp [World.setCell]; omega) _⟩
theorem fw_two {B : Nat} {w3 : World} {g x : Nat} {t t' : TypeId} (hg : w3.heap[g]? = some (.cells #[.int .i64 0, .slice none 0 0, .slice none 0 0, .int .i64 0, .slice none 0 0, .slice none 0 0] t (0, 0)))
    (hx : w3.heap[x]? = some (.cells #[.int .i64 0, .slice none 0 0, .slice none 0 0, .int .i64 0, .slice none 0 0, .slice none 0 0] t' (0, 0))) (hB : B ≤ g) (hBx : B ≤ x) (hne : g ≠ x) (a b c d e f : Value) (a' b' c' d' e' f' : Value) :
    FindW B w3 ((((((((((((w3.setCell ⟨x, 0, none⟩ a').setCell ⟨x, 1, none⟩ b').setCell ⟨x, 2, none⟩ c').setCell ⟨x, 3, none⟩ d').setCell ⟨x, 4, none⟩ e').setCell ⟨x, 5, none⟩ f').setCell ⟨g, 0, none⟩ a).setCell ⟨g, 1, none⟩ b).setCell ⟨g, 2, none⟩ c).setCell ⟨g, 3, none⟩ d).setCell ⟨g, 4, none⟩ e).setCell ⟨g, 5, none⟩ f) := by
  have F := fw_set hx hBx a' b' c' d' e' f'
  have G := fw_set ((block_set6 hne a' b' c' d' e' f').trans hg) hB a b c d e f
  exact ⟨fun v xs h => G.u8 v xs (F.u8 v xs h), fun v xs h => G.sec v xs (F.sec v xs h), fun w h => G.bel w (F.bel w h)⟩
/-- find finds nothing: the error n -/
def RetFindNone (w : World) (n : Int) (e : Ending) (w' : World) : Prop := ∃ (g0 g1 j : Int) (u0 u1 u2 u3 : Option Addr) (n0 n1 n2 n3 c0 c1 c2 c3 : Nat), e = .returned (.tuple #[.agg #[.int .i64 g0, .slice u0 n0 c0, .slice u1 n1 c1, .int .i64 g1, .slice u2 n2 c2, .slice u3 n3 c3], .int .i64 j, .int .i64 n]) ∧ Below w.heap.size w w'
/-- both copies, and the number of the newest -/
def RetFind (w : World) (d : Disk) (p : Nat) (e : Ending) (w' : World) : Prop := ∃ pa sa pb sb, e = .returned (.tuple #[.agg #[.int .i64 (copyGen (supA d p)), pa, sa, .int .i64 (copyGen (supB d p)), pb, sb], .int .i64 (supNew d p), .int .i64 0]) ∧
  SlRep w' pa (copyPay (supA d p)) ∧ SlRep w' sa (supA d p) ∧ SlRep w' pb (copyPay (supB d p)) ∧ SlRep w' sb (supB d p) ∧ Below w.heap.size w w'
theorem ret_find {w w3 w' : World} {d : Disk} {p n : Nat} {pa sa pb sb : Value} (hn : supNew d p = n) (h1 : SlRep w3 pa (copyPay (supA d p))) (h2 : SlRep w3 sa (supA d p)) (h3 : SlRep w3 pb (copyPay (supB d p))) (h4 : SlRep w3 sb (supB d p))
    (hB : Below w.heap.size w w3) (F : FindW w.heap.size w3 w') : RetFind w d p (.returned (.tuple #[.agg #[.int .i64 (copyGen (supA d p)), pa, sa, .int .i64 (copyGen (supB d p)), pb, sb], .int .i64 n, .int .i64 0])) w' :=
  ⟨pa, sa, pb, sb, by rw [hn], F.u8 _ _ h1, F.sec _ _ h2, F.u8 _ _ h3, F.sec _ _ h4, F.bel w hB⟩
set_option maxRecDepth 100000 in
set_option maxHeartbeats 4000000 in
theorem sup_find_none (v : Value) (d : Disk) (p : Int) (w : World) (hd : DiskRep w v d) (hok : (d.ok && insideB d.stable.length p 16) = false) :
    Calls Tryd.prog 31 #[v, .int .i64 p] w (RetFindNone w 2) := by
  obtain ⟨s0, c0, rfl, _, _⟩ := hd.ex
  go_enter Tryd.func31, Tryd.ntmps31
  go_wp2_with fail
  refine (disk_Read_bad _ d p 16 _ (hd.below (below_alloc2 _ _ _)) hok).mono ?_
  rintro e w1 ⟨rfl, hb1⟩
  have hk := keepB hb1 (heap_alloc2_new _ _ _)
  have hB1 : Below w.heap.size w w1 := below_step (below_alloc2 _ _ _) hb1
  have ec0 := cell_of_row w1 _ 0 _ _ _ hk
  have ec1 := cell_of_row w1 _ 1 _ _ _ hk
  have ec2 := cell_of_row w1 _ 2 _ _ _ hk
  have ec3 := cell_of_row w1 _ 3 _ _ _ hk
  have ec4 := cell_of_row w1 _ 4 _ _ _ hk
  have ec5 := cell_of_row w1 _ 5 _ _ _ hk
  have ef0 := frozen_of_row w1 _ 0 _ _ hk
  have ef1 := frozen_of_row w1 _ 1 _ _ hk
  have ef2 := frozen_of_row w1 _ 2 _ _ hk
  have ef3 := frozen_of_row w1 _ 3 _ _ hk
  have ef4 := frozen_of_row w1 _ 4 _ _ hk
  have ef5 := frozen_of_row w1 _ 5 _ _ hk
  simp at ec0 ec1 ec2 ec3 ec4 ec5
  clear hk hb1
  go_wp2
  refine bodyPost_ret (v := .tuple #[.agg #[.int .i64 0, .slice none 0 0, .slice none 0 0, .int .i64 0, .slice none 0 0, .slice none 0 0], .int .i64 0, .int .i64 2]) (by simp [results, Tryd.results31, go_sem, ec0, ec1, ec2, ec3, ec4, ec5]) rfl ?_
  exact ⟨_, _, _, _, _, _, _, _, _, _, _, _, _, _, _, rfl, below_set6 hB1 (w.heap.size + 1) (by omega) _ _ _ _ _ _⟩
set_option maxRecDepth 100000 in
set_option maxHeartbeats 8000000 in
theorem sup_find_some (v : Value) (d : Disk) (p : Nat) (w : World) (hd : DiskRep w v d) (hk : d.ok = true) (hin : insideB d.stable.length p 16 = true) (hne : supGen d p ≠ 0) :
    Calls Tryd.prog 31 #[v, .int .i64 p] w (RetFind w d p) := by
  obtain ⟨s0, c0, rfl, _, _⟩ := hd.ex
  have hp : p + 16 ≤ d.stable.length := by simp [insideB] at hin; omega
  have HL := Lib.hid (supAll_length d p hp)
  have HNE := Lib.hid hne; clear hne
  go_enter Tryd.func31, Tryd.ntmps31
  go_wp2_with fail
  refine (disk_Read_ok _ d p 16 _ (hd.below (below_alloc2 _ _ _)) hk hin).mono ?_
  rintro e w1 ⟨v1, rfl, hv1, hb1⟩
  have hkb := keepB hb1 (heap_alloc2_new _ _ _)
  have hB1 : Below w.heap.size w w1 := below_step (below_alloc2 _ _ _) hb1
  have hlA : ((d.newest.drop p).take 16).length = 16 := HL.out
  obtain ⟨a1, c1, rfl, hs1, hl1, hm1, hn1⟩ := hv1.ex
  rw [hlA] at hl1 ⊢
  clear hlA hv1
  have i5 : ¬ c1 = 8 := by omega
  have i6 : (8 : Int) ≤ c1 := by omega
  obtain ⟨ab, ao, rfl, _⟩ := hs1 (by intro e; have := congrArg List.length e; rw [show ((d.newest.drop p).take 16).length = 16 from HL.out] at this; cases this)
  have hA : SlRep w1 (.slice (some ⟨ab, ao, none⟩) 8 c1) (supA d p) := by
    have := hs1.sub (a' := some ⟨ab, ao, none⟩) 0 8 (by have := HL.out; simp only [supAll] at this; omega) (fun _ => rfl)
    exact ⟨some ⟨ab, ao, none⟩, c1, by simp [supA, HL.out], by simpa [supA, supAll] using this, by simp [supA, HL.out]; omega, hm1, fun h => by cases h⟩
  have hB : SlRep w1 (.slice (some ⟨ab, ao + 64, none⟩) 8 (c1 - 8)) (supB d p) := by
    have := hs1.sub (a' := some ⟨ab, ao + 64, none⟩) 8 8 (by have := HL.out; simp only [supAll] at this; omega) (fun _ => rfl)
    rw [List.take_of_length_le (by have := HL.out; simp only [supAll] at this; simp; omega)] at this
    exact ⟨some ⟨ab, ao + 64, none⟩, c1 - 8, by simp [supB, HL.out], by simpa [supB, supAll] using this, by simp [supB, HL.out]; omega, by omega, fun h => by cases h⟩
  have hlA : (supA d p).length = 8 := by rw [supA, List.length_take, HL.out]; rfl
  have hlB : (supB d p).length = 8 := by rw [supB, List.length_drop, HL.out]
  have HLA := Lib.hid hlA; have HLB := Lib.hid hlB; have HKB := Lib.hid hkb
  clear hlA hlB hkb hs1 hl1 hn1
  go_wp2
  go_region_held3 (fun w' => True) (trivial)
    (first
      | (go_at_call_of 42 (Value.slice (some ⟨ab, ao, none⟩) 8 c1); refine (sup_get _ (supA d p) _ (hA.below (by repeat' (first | exact Below.refl _ _ | exact below_drew _ | exact below_alloc _ _ | (refine below_step ?_ (by assumption)) | (refine below_step ?_ (below_alloc _ _)) | (refine below_step ?_ (below_drew _))))) HLA.out).mono ?_; rintro e w2 ⟨pa, sa, rfl, hpa, hsa, hb2⟩; obtain ⟨pa1, pa2, rfl, hpa1⟩ := hpa.ex; obtain ⟨sa1, sa2, rfl, hsa1⟩ := hsa.ex; obtain ⟨hc2, hf2⟩ := bcell hb2; have hz2 := hb2.size; (try simp at hz2); (try replace hz2 := Nat.lt_of_succ_le hz2))
      | (go_at_call 42; refine (sup_get _ (supB d p) _ (hB.below (by repeat' (first | exact Below.refl _ _ | exact below_drew _ | exact below_alloc _ _ | (refine below_step ?_ (by assumption)) | (refine below_step ?_ (below_alloc _ _)) | (refine below_step ?_ (below_drew _))))) HLB.out).mono ?_; rintro e w3 ⟨pb, sb, rfl, hpb, hsb, hb3⟩; obtain ⟨pb1, pb2, rfl, hpb1⟩ := hpb.ex; obtain ⟨sb1, sb2, rfl, hsb1⟩ := hsb.ex; obtain ⟨hc3, hf3⟩ := bcell hb3; have hz3 := hb3.size; (try simp at hz3); (try replace hz3 := Nat.lt_of_succ_le hz3)))
  · skip
    have hb23 : Below w2.heap.size w2 w3 := (by repeat' (first | exact Below.refl _ _ | exact below_drew _ | exact below_alloc _ _ | (refine below_step ?_ (by assumption)) | (refine below_step ?_ (below_alloc _ _)) | (refine below_step ?_ (below_drew _))))
    have hb12 : Below w1.heap.size w1 w2 := (by repeat' (first | exact Below.refl _ _ | exact below_drew _ | exact below_alloc _ _ | (refine below_step ?_ (by assumption)) | (refine below_step ?_ (below_alloc _ _)) | (refine below_step ?_ (below_drew _))))
    have hw3 : Below w1.heap.size w1 w3 := below_step hb12 hb23
    have hs12 := hb12.size
    have hs23 := hb23.size
    have hkb3 := keepB hw3 HKB.out
    have hB3 : Below w.heap.size w w3 := below_step hB1 hw3
    have hzz : w.heap.size + 1 < w1.heap.size := (Array.getElem?_eq_some_iff.1 HKB.out).1
    have hz1 : w.heap.size + 1 < w3.heap.size := Nat.lt_of_lt_of_le hzz hw3.size
    have rc0 := cell_of_row w3 _ 0 _ _ _ hkb3
    have rc1 := cell_of_row w3 _ 1 _ _ _ hkb3
    have rc2 := cell_of_row w3 _ 2 _ _ _ hkb3
    have rc3 := cell_of_row w3 _ 3 _ _ _ hkb3
    have rc4 := cell_of_row w3 _ 4 _ _ _ hkb3
    have rc5 := cell_of_row w3 _ 5 _ _ _ hkb3
    have rf0 := frozen_of_row w3 _ 0 _ _ hkb3
    have rf1 := frozen_of_row w3 _ 1 _ _ hkb3
    have rf2 := frozen_of_row w3 _ 2 _ _ hkb3
    have rf3 := frozen_of_row w3 _ 3 _ _ hkb3
    have rf4 := frozen_of_row w3 _ 4 _ _ hkb3
    have rf5 := frozen_of_row w3 _ 5 _ _ hkb3
    simp at rc0 rc1 rc2 rc3 rc4 rc5
    have HK3 := Lib.hid hkb3
    clear hkb3
    by_cases hlt : copyGen (supA d p) < copyGen (supB d p)
    · have t1 : ((copyGen (supA d p) : Nat) : Int) < ((copyGen (supB d p) : Nat) : Int) := by omega
      have t2 : (((copyGen (supB d p) : Nat) : Int) == 0) = false := by
        rw [beq_eq_false_iff_ne]; have := HNE.out; rw [supGen, if_pos hlt] at this; omega
      have hnw : supNew d p = 1 := by rw [supNew, if_pos hlt]
      go_wp2
      refine bodyPost_ret (v := .tuple #[.agg #[.int .i64 (copyGen (supA d p)), .slice pa1 (copyPay (supA d p)).length pa2, .slice sa1 (supA d p).length sa2, .int .i64 (copyGen (supB d p)), .slice pb1 (copyPay (supB d p)).length pb2, .slice sb1 (supB d p).length sb2], .int .i64 1, .int .i64 0]) (by simp [results, Tryd.results31, go_sem, rc0, rc1, rc2, rc3, rc4, rc5, hz1]) rfl ?_
      exact ret_find hnw (hpa.below hb23) (hsa.below hb23) hpb hsb hB3 (fw_last (B := w.heap.size) HK3.out (by omega) _ _ _ _ _ _ _)
    · have t1 : ¬ ((copyGen (supA d p) : Nat) : Int) < ((copyGen (supB d p) : Nat) : Int) := by omega
      have t2 : (((copyGen (supA d p) : Nat) : Int) == 0) = false := by
        rw [beq_eq_false_iff_ne]; have := HNE.out; rw [supGen, if_neg hlt] at this; omega
      have hnw : supNew d p = 0 := by rw [supNew, if_neg hlt]
      go_wp2
      refine bodyPost_ret (v := .tuple #[.agg #[.int .i64 (copyGen (supA d p)), .slice pa1 (copyPay (supA d p)).length pa2, .slice sa1 (supA d p).length sa2, .int .i64 (copyGen (supB d p)), .slice pb1 (copyPay (supB d p)).length pb2, .slice sb1 (supB d p).length sb2], .int .i64 0, .int .i64 0]) (by simp [results, Tryd.results31, go_sem, rc0, rc1, rc2, rc3, rc4, rc5, hz1]) rfl ?_
      exact ret_find hnw (hpa.below hb23) (hsa.below hb23) hpb hsb hB3 (fw_last (B := w.heap.size) HK3.out (by omega) _ _ _ _ _ _ _)
  · skip
    have hb23 : Below w2.heap.size w2 w3 := (by repeat' (first | exact Below.refl _ _ | exact below_drew _ | exact below_alloc _ _ | (refine below_step ?_ (by assumption)) | (refine below_step ?_ (below_alloc _ _)) | (refine below_step ?_ (below_drew _))))
    have hb12 : Below w1.heap.size w1 w2 := (by repeat' (first | exact Below.refl _ _ | exact below_drew _ | exact below_alloc _ _ | (refine below_step ?_ (by assumption)) | (refine below_step ?_ (below_alloc _ _)) | (refine below_step ?_ (below_drew _))))
    have hw3 : Below w1.heap.size w1 w3 := below_step hb12 hb23
    have hs12 := hb12.size
    have hs23 := hb23.size
    have hkb3 := keepB hw3 HKB.out
    have hB3 : Below w.heap.size w w3 := below_step hB1 hw3
    have hzz : w.heap.size + 1 < w1.heap.size := (Array.getElem?_eq_some_iff.1 HKB.out).1
    have hz1 : w.heap.size + 1 < w3.heap.size := Nat.lt_of_lt_of_le hzz hw3.size
    have rc0 := cell_of_row w3 _ 0 _ _ _ hkb3
    have rc1 := cell_of_row w3 _ 1 _ _ _ hkb3
    have rc2 := cell_of_row w3 _ 2 _ _ _ hkb3
    have rc3 := cell_of_row w3 _ 3 _ _ _ hkb3
    have rc4 := cell_of_row w3 _ 4 _ _ _ hkb3
    have rc5 := cell_of_row w3 _ 5 _ _ _ hkb3
    have rf0 := frozen_of_row w3 _ 0 _ _ hkb3
    have rf1 := frozen_of_row w3 _ 1 _ _ hkb3
    have rf2 := frozen_of_row w3 _ 2 _ _ hkb3
    have rf3 := frozen_of_row w3 _ 3 _ _ hkb3
    have rf4 := frozen_of_row w3 _ 4 _ _ hkb3
    have rf5 := frozen_of_row w3 _ 5 _ _ hkb3
    simp at rc0 rc1 rc2 rc3 rc4 rc5
    have HK3 := Lib.hid hkb3
    clear hkb3
    by_cases hlt : copyGen (supA d p) < copyGen (supB d p)
    · have t1 : ((copyGen (supA d p) : Nat) : Int) < ((copyGen (supB d p) : Nat) : Int) := by omega
      have t2 : (((copyGen (supB d p) : Nat) : Int) == 0) = false := by
        rw [beq_eq_false_iff_ne]; have := HNE.out; rw [supGen, if_pos hlt] at this; omega
      have hnw : supNew d p = 1 := by rw [supNew, if_pos hlt]
      go_wp2
      refine bodyPost_ret (v := .tuple #[.agg #[.int .i64 (copyGen (supA d p)), .slice pa1 (copyPay (supA d p)).length pa2, .slice sa1 (supA d p).length sa2, .int .i64 (copyGen (supB d p)), .slice pb1 (copyPay (supB d p)).length pb2, .slice sb1 (supB d p).length sb2], .int .i64 1, .int .i64 0]) (by simp [results, Tryd.results31, go_sem, rc0, rc1, rc2, rc3, rc4, rc5, hz1]) rfl ?_
      exact ret_find hnw (hpa.below hb23) (hsa.below hb23) hpb hsb hB3 (fw_two (B := w.heap.size) HK3.out (keepB hb3 (heap_alloc_new w2 _)) (by omega) (by omega) (by omega) _ _ _ _ _ _ _ _ _ _ _ _)
    · have t1 : ¬ ((copyGen (supA d p) : Nat) : Int) < ((copyGen (supB d p) : Nat) : Int) := by omega
      have t2 : (((copyGen (supA d p) : Nat) : Int) == 0) = false := by
        rw [beq_eq_false_iff_ne]; have := HNE.out; rw [supGen, if_neg hlt] at this; omega
      have hnw : supNew d p = 0 := by rw [supNew, if_neg hlt]
      go_wp2
      refine bodyPost_ret (v := .tuple #[.agg #[.int .i64 (copyGen (supA d p)), .slice pa1 (copyPay (supA d p)).length pa2, .slice sa1 (supA d p).length sa2, .int .i64 (copyGen (supB d p)), .slice pb1 (copyPay (supB d p)).length pb2, .slice sb1 (supB d p).length sb2], .int .i64 0, .int .i64 0]) (by simp [results, Tryd.results31, go_sem, rc0, rc1, rc2, rc3, rc4, rc5, hz1]) rfl ?_
      exact ret_find hnw (hpa.below hb23) (hsa.below hb23) hpb hsb hB3 (fw_two (B := w.heap.size) HK3.out (keepB hb3 (heap_alloc_new w2 _)) (by omega) (by omega) (by omega) _ _ _ _ _ _ _ _ _ _ _ _)
  · skip
    have hb23 : Below w2.heap.size w2 w3 := (by repeat' (first | exact Below.refl _ _ | exact below_drew _ | exact below_alloc _ _ | (refine below_step ?_ (by assumption)) | (refine below_step ?_ (below_alloc _ _)) | (refine below_step ?_ (below_drew _))))
    have hb12 : Below w1.heap.size w1 w2 := (by repeat' (first | exact Below.refl _ _ | exact below_drew _ | exact below_alloc _ _ | (refine below_step ?_ (by assumption)) | (refine below_step ?_ (below_alloc _ _)) | (refine below_step ?_ (below_drew _))))
    have hw3 : Below w1.heap.size w1 w3 := below_step hb12 hb23
    have hs12 := hb12.size
    have hs23 := hb23.size
    have hkb3 := keepB hw3 HKB.out
    have hB3 : Below w.heap.size w w3 := below_step hB1 hw3
    have hzz : w.heap.size + 1 < w1.heap.size := (Array.getElem?_eq_some_iff.1 HKB.out).1
    have hz1 : w.heap.size + 1 < w3.heap.size := Nat.lt_of_lt_of_le hzz hw3.size
    have rc0 := cell_of_row w3 _ 0 _ _ _ hkb3
    have rc1 := cell_of_row w3 _ 1 _ _ _ hkb3
    have rc2 := cell_of_row w3 _ 2 _ _ _ hkb3
    have rc3 := cell_of_row w3 _ 3 _ _ _ hkb3
    have rc4 := cell_of_row w3 _ 4 _ _ _ hkb3
    have rc5 := cell_of_row w3 _ 5 _ _ _ hkb3
    have rf0 := frozen_of_row w3 _ 0 _ _ hkb3
    have rf1 := frozen_of_row w3 _ 1 _ _ hkb3
    have rf2 := frozen_of_row w3 _ 2 _ _ hkb3
    have rf3 := frozen_of_row w3 _ 3 _ _ hkb3
    have rf4 := frozen_of_row w3 _ 4 _ _ hkb3
    have rf5 := frozen_of_row w3 _ 5 _ _ hkb3
    simp at rc0 rc1 rc2 rc3 rc4 rc5
    have HK3 := Lib.hid hkb3
    clear hkb3
    by_cases hlt : copyGen (supA d p) < copyGen (supB d p)
    · have t1 : ((copyGen (supA d p) : Nat) : Int) < ((copyGen (supB d p) : Nat) : Int) := by omega
      have t2 : (((copyGen (supB d p) : Nat) : Int) == 0) = false := by
        rw [beq_eq_false_iff_ne]; have := HNE.out; rw [supGen, if_pos hlt] at this; omega
      have hnw : supNew d p = 1 := by rw [supNew, if_pos hlt]
      go_wp2
      refine bodyPost_ret (v := .tuple #[.agg #[.int .i64 (copyGen (supA d p)), .slice pa1 (copyPay (supA d p)).length pa2, .slice sa1 (supA d p).length sa2, .int .i64 (copyGen (supB d p)), .slice pb1 (copyPay (supB d p)).length pb2, .slice sb1 (supB d p).length sb2], .int .i64 1, .int .i64 0]) (by simp [results, Tryd.results31, go_sem, rc0, rc1, rc2, rc3, rc4, rc5, hz1]) rfl ?_
      exact ret_find hnw (hpa.below hb23) (hsa.below hb23) hpb hsb hB3 (fw_two (B := w.heap.size) HK3.out (keepB hb3 (keepB hb2 (heap_alloc_new w1 _))) (by omega) (by omega) (by omega) _ _ _ _ _ _ _ _ _ _ _ _)
    · have t1 : ¬ ((copyGen (supA d p) : Nat) : Int) < ((copyGen (supB d p) : Nat) : Int) := by omega
      have t2 : (((copyGen (supA d p) : Nat) : Int) == 0) = false := by
        rw [beq_eq_false_iff_ne]; have := HNE.out; rw [supGen, if_neg hlt] at this; omega
      have hnw : supNew d p = 0 := by rw [supNew, if_neg hlt]
      go_wp2
      refine bodyPost_ret (v := .tuple #[.agg #[.int .i64 (copyGen (supA d p)), .slice pa1 (copyPay (supA d p)).length pa2, .slice sa1 (supA d p).length sa2, .int .i64 (copyGen (supB d p)), .slice pb1 (copyPay (supB d p)).length pb2, .slice sb1 (supB d p).length sb2], .int .i64 0, .int .i64 0]) (by simp [results, Tryd.results31, go_sem, rc0, rc1, rc2, rc3, rc4, rc5, hz1]) rfl ?_
      exact ret_find hnw (hpa.below hb23) (hsa.below hb23) hpb hsb hB3 (fw_two (B := w.heap.size) HK3.out (keepB hb3 (keepB hb2 (heap_alloc_new w1 _))) (by omega) (by omega) (by omega) _ _ _ _ _ _ _ _ _ _ _ _)
theorem ret_find9 {w w3 w' : World} {g0 g1 j : Int} {u0 u1 u2 u3 : Option Addr} {n0 n1 n2 n3 c0 c1 c2 c3 : Nat} (hB : Below w.heap.size w w3) (F : FindW w.heap.size w3 w') :
    RetFindNone w 9 (.returned (.tuple #[.agg #[.int .i64 g0, .slice u0 n0 c0, .slice u1 n1 c1, .int .i64 g1, .slice u2 n2 c2, .slice u3 n3 c3], .int .i64 j, .int .i64 9])) w' :=
  ⟨_, _, _, _, _, _, _, _, _, _, _, _, _, _, _, rfl, F.bel w hB⟩
set_option maxRecDepth 100000 in
set_option maxHeartbeats 8000000 in
theorem sup_find_zero (v : Value) (d : Disk) (p : Nat) (w : World) (hd : DiskRep w v d) (hk : d.ok = true) (hin : insideB d.stable.length p 16 = true) (hne : supGen d p = 0) :
    Calls Tryd.prog 31 #[v, .int .i64 p] w (RetFindNone w 9) := by
  obtain ⟨s0, c0, rfl, _, _⟩ := hd.ex
  have hp : p + 16 ≤ d.stable.length := by simp [insideB] at hin; omega
  have HL := Lib.hid (supAll_length d p hp)
  have HNE := Lib.hid hne; clear hne
  go_enter Tryd.func31, Tryd.ntmps31
  go_wp2_with fail
  refine (disk_Read_ok _ d p 16 _ (hd.below (below_alloc2 _ _ _)) hk hin).mono ?_
  rintro e w1 ⟨v1, rfl, hv1, hb1⟩
  have hkb := keepB hb1 (heap_alloc2_new _ _ _)
  have hB1 : Below w.heap.size w w1 := below_step (below_alloc2 _ _ _) hb1
  have hlA : ((d.newest.drop p).take 16).length = 16 := HL.out
  obtain ⟨a1, c1, rfl, hs1, hl1, hm1, hn1⟩ := hv1.ex
  rw [hlA] at hl1 ⊢
  clear hlA hv1
  have i5 : ¬ c1 = 8 := by omega
  have i6 : (8 : Int) ≤ c1 := by omega
  obtain ⟨ab, ao, rfl, _⟩ := hs1 (by intro e; have := congrArg List.length e; rw [show ((d.newest.drop p).take 16).length = 16 from HL.out] at this; cases this)
  have hA : SlRep w1 (.slice (some ⟨ab, ao, none⟩) 8 c1) (supA d p) := by
    have := hs1.sub (a' := some ⟨ab, ao, none⟩) 0 8 (by have := HL.out; simp only [supAll] at this; omega) (fun _ => rfl)
    exact ⟨some ⟨ab, ao, none⟩, c1, by simp [supA, HL.out], by simpa [supA, supAll] using this, by simp [supA, HL.out]; omega, hm1, fun h => by cases h⟩
  have hB : SlRep w1 (.slice (some ⟨ab, ao + 64, none⟩) 8 (c1 - 8)) (supB d p) := by
    have := hs1.sub (a' := some ⟨ab, ao + 64, none⟩) 8 8 (by have := HL.out; simp only [supAll] at this; omega) (fun _ => rfl)
    rw [List.take_of_length_le (by have := HL.out; simp only [supAll] at this; simp; omega)] at this
    exact ⟨some ⟨ab, ao + 64, none⟩, c1 - 8, by simp [supB, HL.out], by simpa [supB, supAll] using this, by simp [supB, HL.out]; omega, by omega, fun h => by cases h⟩
  have hlA : (supA d p).length = 8 := by rw [supA, List.length_take, HL.out]; rfl
  have hlB : (supB d p).length = 8 := by rw [supB, List.length_drop, HL.out]
  have HLA := Lib.hid hlA; have HLB := Lib.hid hlB; have HKB := Lib.hid hkb
  clear hlA hlB hkb hs1 hl1 hn1
  go_wp2
  go_region_held3 (fun w' => True) (trivial)
    (first
      | (go_at_call_of 42 (Value.slice (some ⟨ab, ao, none⟩) 8 c1); refine (sup_get _ (supA d p) _ (hA.below (by repeat' (first | exact Below.refl _ _ | exact below_drew _ | exact below_alloc _ _ | (refine below_step ?_ (by assumption)) | (refine below_step ?_ (below_alloc _ _)) | (refine below_step ?_ (below_drew _))))) HLA.out).mono ?_; rintro e w2 ⟨pa, sa, rfl, hpa, hsa, hb2⟩; obtain ⟨pa1, pa2, rfl, hpa1⟩ := hpa.ex; obtain ⟨sa1, sa2, rfl, hsa1⟩ := hsa.ex; obtain ⟨hc2, hf2⟩ := bcell hb2; have hz2 := hb2.size; (try simp at hz2); (try replace hz2 := Nat.lt_of_succ_le hz2))
      | (go_at_call 42; refine (sup_get _ (supB d p) _ (hB.below (by repeat' (first | exact Below.refl _ _ | exact below_drew _ | exact below_alloc _ _ | (refine below_step ?_ (by assumption)) | (refine below_step ?_ (below_alloc _ _)) | (refine below_step ?_ (below_drew _))))) HLB.out).mono ?_; rintro e w3 ⟨pb, sb, rfl, hpb, hsb, hb3⟩; obtain ⟨pb1, pb2, rfl, hpb1⟩ := hpb.ex; obtain ⟨sb1, sb2, rfl, hsb1⟩ := hsb.ex; obtain ⟨hc3, hf3⟩ := bcell hb3; have hz3 := hb3.size; (try simp at hz3); (try replace hz3 := Nat.lt_of_succ_le hz3)))
  · skip
    have hb23 : Below w2.heap.size w2 w3 := (by repeat' (first | exact Below.refl _ _ | exact below_drew _ | exact below_alloc _ _ | (refine below_step ?_ (by assumption)) | (refine below_step ?_ (below_alloc _ _)) | (refine below_step ?_ (below_drew _))))
    have hb12 : Below w1.heap.size w1 w2 := (by repeat' (first | exact Below.refl _ _ | exact below_drew _ | exact below_alloc _ _ | (refine below_step ?_ (by assumption)) | (refine below_step ?_ (below_alloc _ _)) | (refine below_step ?_ (below_drew _))))
    have hw3 : Below w1.heap.size w1 w3 := below_step hb12 hb23
    have hs12 := hb12.size
    have hs23 := hb23.size
    have hkb3 := keepB hw3 HKB.out
    have hB3 : Below w.heap.size w w3 := below_step hB1 hw3
    have hzz : w.heap.size + 1 < w1.heap.size := (Array.getElem?_eq_some_iff.1 HKB.out).1
    have hz1 : w.heap.size + 1 < w3.heap.size := Nat.lt_of_lt_of_le hzz hw3.size
    have rc0 := cell_of_row w3 _ 0 _ _ _ hkb3
    have rc1 := cell_of_row w3 _ 1 _ _ _ hkb3
    have rc2 := cell_of_row w3 _ 2 _ _ _ hkb3
    have rc3 := cell_of_row w3 _ 3 _ _ _ hkb3
    have rc4 := cell_of_row w3 _ 4 _ _ _ hkb3
    have rc5 := cell_of_row w3 _ 5 _ _ _ hkb3
    have rf0 := frozen_of_row w3 _ 0 _ _ hkb3
    have rf1 := frozen_of_row w3 _ 1 _ _ hkb3
    have rf2 := frozen_of_row w3 _ 2 _ _ hkb3
    have rf3 := frozen_of_row w3 _ 3 _ _ hkb3
    have rf4 := frozen_of_row w3 _ 4 _ _ hkb3
    have rf5 := frozen_of_row w3 _ 5 _ _ hkb3
    simp at rc0 rc1 rc2 rc3 rc4 rc5
    have HK3 := Lib.hid hkb3
    clear hkb3
    have hz0 : copyGen (supA d p) = 0 ∧ copyGen (supB d p) = 0 := by
      have := HNE.out; rw [supGen] at this; split at this <;> omega
    have t1 : ¬ ((copyGen (supA d p) : Nat) : Int) < ((copyGen (supB d p) : Nat) : Int) := by omega
    have t2 : (((copyGen (supA d p) : Nat) : Int) == 0) = true := by rw [beq_iff_eq]; omega
    have HZ := Lib.hid hz0; clear hz0
    go_wp2
    refine bodyPost_ret (v := .tuple #[.agg #[.int .i64 (copyGen (supA d p)), .slice pa1 (copyPay (supA d p)).length pa2, .slice sa1 (supA d p).length sa2, .int .i64 (copyGen (supB d p)), .slice pb1 (copyPay (supB d p)).length pb2, .slice sb1 (supB d p).length sb2], .int .i64 0, .int .i64 9]) (by simp [results, Tryd.results31, go_sem, rc0, rc1, rc2, rc3, rc4, rc5, hz1]) rfl ?_
    exact ret_find9 hB3 (fw_last (B := w.heap.size) HK3.out (by omega) _ _ _ _ _ _ _)
  · skip
    have hb23 : Below w2.heap.size w2 w3 := (by repeat' (first | exact Below.refl _ _ | exact below_drew _ | exact below_alloc _ _ | (refine below_step ?_ (by assumption)) | (refine below_step ?_ (below_alloc _ _)) | (refine below_step ?_ (below_drew _))))
    have hb12 : Below w1.heap.size w1 w2 := (by repeat' (first | exact Below.refl _ _ | exact below_drew _ | exact below_alloc _ _ | (refine below_step ?_ (by assumption)) | (refine below_step ?_ (below_alloc _ _)) | (refine below_step ?_ (below_drew _))))
    have hw3 : Below w1.heap.size w1 w3 := below_step hb12 hb23
    have hs12 := hb12.size
    have hs23 := hb23.size
    have hkb3 := keepB hw3 HKB.out
    have hB3 : Below w.heap.size w w3 := below_step hB1 hw3
    have hzz : w.heap.size + 1 < w1.heap.size := (Array.getElem?_eq_some_iff.1 HKB.out).1
    have hz1 : w.heap.size + 1 < w3.heap.size := Nat.lt_of_lt_of_le hzz hw3.size
    have rc0 := cell_of_row w3 _ 0 _ _ _ hkb3
    have rc1 := cell_of_row w3 _ 1 _ _ _ hkb3
    have rc2 := cell_of_row w3 _ 2 _ _ _ hkb3
    have rc3 := cell_of_row w3 _ 3 _ _ _ hkb3
    have rc4 := cell_of_row w3 _ 4 _ _ _ hkb3
    have rc5 := cell_of_row w3 _ 5 _ _ _ hkb3
    have rf0 := frozen_of_row w3 _ 0 _ _ hkb3
    have rf1 := frozen_of_row w3 _ 1 _ _ hkb3
    have rf2 := frozen_of_row w3 _ 2 _ _ hkb3
    have rf3 := frozen_of_row w3 _ 3 _ _ hkb3
    have rf4 := frozen_of_row w3 _ 4 _ _ hkb3
    have rf5 := frozen_of_row w3 _ 5 _ _ hkb3
    simp at rc0 rc1 rc2 rc3 rc4 rc5
    have HK3 := Lib.hid hkb3
    clear hkb3
    have hz0 : copyGen (supA d p) = 0 ∧ copyGen (supB d p) = 0 := by
      have := HNE.out; rw [supGen] at this; split at this <;> omega
    have t1 : ¬ ((copyGen (supA d p) : Nat) : Int) < ((copyGen (supB d p) : Nat) : Int) := by omega
    have t2 : (((copyGen (supA d p) : Nat) : Int) == 0) = true := by rw [beq_iff_eq]; omega
    have HZ := Lib.hid hz0; clear hz0
    go_wp2
    refine bodyPost_ret (v := .tuple #[.agg #[.int .i64 (copyGen (supA d p)), .slice pa1 (copyPay (supA d p)).length pa2, .slice sa1 (supA d p).length sa2, .int .i64 (copyGen (supB d p)), .slice pb1 (copyPay (supB d p)).length pb2, .slice sb1 (supB d p).length sb2], .int .i64 0, .int .i64 9]) (by simp [results, Tryd.results31, go_sem, rc0, rc1, rc2, rc3, rc4, rc5, hz1]) rfl ?_
    exact ret_find9 hB3 (fw_two (B := w.heap.size) HK3.out (keepB hb3 (heap_alloc_new w2 _)) (by omega) (by omega) (by omega) _ _ _ _ _ _ _ _ _ _ _ _)
  · skip
    have hb23 : Below w2.heap.size w2 w3 := (by repeat' (first | exact Below.refl _ _ | exact below_drew _ | exact below_alloc _ _ | (refine below_step ?_ (by assumption)) | (refine below_step ?_ (below_alloc _ _)) | (refine below_step ?_ (below_drew _))))
    have hb12 : Below w1.heap.size w1 w2 := (by repeat' (first | exact Below.refl _ _ | exact below_drew _ | exact below_alloc _ _ | (refine below_step ?_ (by assumption)) | (refine below_step ?_ (below_alloc _ _)) | (refine below_step ?_ (below_drew _))))
    have hw3 : Below w1.heap.size w1 w3 := below_step hb12 hb23
    have hs12 := hb12.size
    have hs23 := hb23.size
    have hkb3 := keepB hw3 HKB.out
    have hB3 : Below w.heap.size w w3 := below_step hB1 hw3
    have hzz : w.heap.size + 1 < w1.heap.size := (Array.getElem?_eq_some_iff.1 HKB.out).1
    have hz1 : w.heap.size + 1 < w3.heap.size := Nat.lt_of_lt_of_le hzz hw3.size
    have rc0 := cell_of_row w3 _ 0 _ _ _ hkb3
    have rc1 := cell_of_row w3 _ 1 _ _ _ hkb3
    have rc2 := cell_of_row w3 _ 2 _ _ _ hkb3
    have rc3 := cell_of_row w3 _ 3 _ _ _ hkb3
    have rc4 := cell_of_row w3 _ 4 _ _ _ hkb3
    have rc5 := cell_of_row w3 _ 5 _ _ _ hkb3
    have rf0 := frozen_of_row w3 _ 0 _ _ hkb3
    have rf1 := frozen_of_row w3 _ 1 _ _ hkb3
    have rf2 := frozen_of_row w3 _ 2 _ _ hkb3
    have rf3 := frozen_of_row w3 _ 3 _ _ hkb3
    have rf4 := frozen_of_row w3 _ 4 _ _ hkb3
    have rf5 := frozen_of_row w3 _ 5 _ _ hkb3
    simp at rc0 rc1 rc2 rc3 rc4 rc5
    have HK3 := Lib.hid hkb3
    clear hkb3
    have hz0 : copyGen (supA d p) = 0 ∧ copyGen (supB d p) = 0 := by
      have := HNE.out; rw [supGen] at this; split at this <;> omega
    have t1 : ¬ ((copyGen (supA d p) : Nat) : Int) < ((copyGen (supB d p) : Nat) : Int) := by omega
    have t2 : (((copyGen (supA d p) : Nat) : Int) == 0) = true := by rw [beq_iff_eq]; omega
    have HZ := Lib.hid hz0; clear hz0
    go_wp2
    refine bodyPost_ret (v := .tuple #[.agg #[.int .i64 (copyGen (supA d p)), .slice pa1 (copyPay (supA d p)).length pa2, .slice sa1 (supA d p).length sa2, .int .i64 (copyGen (supB d p)), .slice pb1 (copyPay (supB d p)).length pb2, .slice sb1 (supB d p).length sb2], .int .i64 0, .int .i64 9]) (by simp [results, Tryd.results31, go_sem, rc0, rc1, rc2, rc3, rc4, rc5, hz1]) rfl ?_
    exact ret_find9 hB3 (fw_two (B := w.heap.size) HK3.out (keepB hb3 (keepB hb2 (heap_alloc_new w1 _))) (by omega) (by omega) (by omega) _ _ _ _ _ _ _ _ _ _ _ _)
end Go.Proofs.YtnddgpkljpjjbaaDoor
