/- superblock.Store. -/
import Derived.Test.YtnddgpkljpjjbaaDoorFormat
import Derived.Test.YtnddgpkljpjjbaaDoorSup6
namespace Go.Proofs.YtnddgpkljpjjbaaDoor
open Go.RowKit
set_option linter.unusedVariables false
set_option linter.unusedSimpArgs false
def topOf (l : List Sec) (m : Nat) : Nat := l.foldl (fun m s => max m s.gen) m
def supTop (d : Disk) (p : Nat) : Nat := topOf (supAll d p) 0
theorem topOf_append (a b : List Sec) (m : Nat) : topOf (a ++ b) m = topOf b (topOf a m) := by simp [topOf]
theorem topOf_snoc (l : List Sec) (k : Nat) (s : Sec) (h : l[k]? = some s) (m : Nat) : max (topOf (l.take k) m) s.gen = topOf (l.take (k + 1)) m := by
  rw [take_snoc l k s h, topOf_append]; rfl
theorem topOf_lt : ∀ (l : List Sec) (m : Nat), m < 4294967296 → topOf l m < 4294967296
  | [], m, h => h
  | s :: l, m, h => topOf_lt l _ (by have := gen_lt s; show max m s.gen < _; omega)
theorem supTop_lt (d : Disk) (p : Nat) : supTop d p < 4294967296 := topOf_lt _ _ (by omega)
theorem supTop_parts (d : Disk) (p : Nat) : topOf (supB d p) (topOf (supA d p) 0) = supTop d p := by
  rw [← topOf_append, supA, supB, List.take_append_drop]; rfl
def storeErr (d : Disk) (p : Int) (xs : List UInt8) : Int :=
  if (d.ok && insideB d.stable.length p 16) = false then 2 else if supGen d p.toNat = 0 then 9 else if xs.length > 31 then 5 else if supTop d p.toNat = 4294967295 then 11 else 0
def storeOps (d : Disk) (p : Nat) (xs : List UInt8) : List OpD := [⟨0, p + (8 - 8 * (supNew d p : Int)), copySecs (supTop d p + 1) xs⟩, ⟨1, 0, []⟩]
def storeRes (d : Disk) (p : Int) (xs : List UInt8) : List OpD := if storeErr d p xs = 0 then storeOps d p.toNat xs else []
theorem ret_st_nil {w w' : World} {d : Disk} {p : Int} {xs : List UInt8} {k : Int} (hk : storeErr d p xs = k) (h0 : k ≠ 0) (hb : Below w.heap.size w w') : RetOps w (storeRes d p xs) (storeErr d p xs) (.returned (.tuple #[.slice none 0 0, .int .i64 k])) w' :=
  ⟨_, by rw [hk], by rw [storeRes, hk, if_neg h0]; exact SlRep.nil _, hb⟩
theorem two_rep {w : World} {v1 : Value} {p : Int} {l : List Sec} {t : TypeId} {b : Nat} (hb : b = w.heap.size) (h1 : SlRep w v1 l) :
    SlRep (w.alloc (.cells #[.int .i64 0, .int .i64 p, v1, .int .i64 1, .int .i64 0, .slice none 0 0] t)) (.slice (some ⟨b, 0, none⟩) 2 2) [(⟨0, p, l⟩ : OpD), ⟨1, 0, []⟩] := by
  subst hb
  refine SlRep.two (xs := [(⟨0, p, l⟩ : OpD), ⟨1, 0, []⟩]) [[.int .i64 0, .int .i64 p, v1], [.int .i64 1, .int .i64 0, .slice none 0 0]] rfl ?_ rfl (by simp)
  intro i x c hx hc
  have hba := below_alloc w (.cells #[.int .i64 0, .int .i64 p, v1, .int .i64 1, .int .i64 0, .slice none 0 0] t)
  match i, hx, hc with
  | 0, hx, hc => cases hx; cases hc; exact ⟨_, rfl, h1.below hba⟩
  | 1, hx, hc => cases hx; cases hc; exact ⟨_, rfl, SlRep.nil _⟩
  | i + 2, hx, hc => simp at hc
theorem run_index0 (a a' : Int) (b1 b2 b3 b4 : Option Addr) (n1 n2 n3 n4 c1 c2 c3 c4 : Nat) (w : World) : Sem.run Tryd.prog (Instr.index 76 (.agg #[.int .i64 a, .slice b1 n1 c1, .slice b2 n2 c2, .int .i64 a', .slice b3 n3 c3, .slice b4 n4 c4]) (.int .i64 0)) w = .ok (.agg #[.int .i64 a, .slice b1 n1 c1, .slice b2 n2 c2]) w := by
  simp only [Instr.index]
  go_simp
theorem run_index1 (a a' : Int) (b1 b2 b3 b4 : Option Addr) (n1 n2 n3 n4 c1 c2 c3 c4 : Nat) (w : World) : Sem.run Tryd.prog (Instr.index 76 (.agg #[.int .i64 a, .slice b1 n1 c1, .slice b2 n2 c2, .int .i64 a', .slice b3 n3 c3, .slice b4 n4 c4]) (.int .i64 1)) w = .ok (.agg #[.int .i64 a', .slice b3 n3 c3, .slice b4 n4 c4]) w := by
  simp only [Instr.index]
  go_simp
set_option maxRecDepth 100000 in
set_option maxHeartbeats 4000000 in
theorem sup_Store_ok (v : Value) (d : Disk) (p : Nat) (u : Value) (xs : List UInt8) (w : World) (hd : DiskRep w v d) (hk : d.ok = true) (hin : insideB d.stable.length p 16 = true) (hne : supGen d p ≠ 0) (hu : SlRep w u xs) (hx : xs.length ≤ 31) :
    Calls Tryd.prog 18 #[v, .int .i64 p, u] w (RetOps w (storeRes d p xs) (storeErr d p xs)) := by
  obtain ⟨s0, c0, rfl, _, _⟩ := hd.ex
  obtain ⟨a, c, rfl, _⟩ := hu.ex
  have hp : p + 16 ≤ d.stable.length := by simp [insideB] at hin; omega
  have hlen := (Disk.ok_get d hk).1
  have h8A : (supA d p).length = 8 := by rw [supA, List.length_take, supAll_length d p hp]; rfl
  have h8B : (supB d p).length = 8 := by rw [supB, List.length_drop, supAll_length d p hp]
  have HA := Lib.hid h8A; have HB := Lib.hid h8B
  have hse : storeErr d p xs = if supTop d p = 4294967295 then 11 else 0 := by
    rw [storeErr, hk, hin, if_neg (by simp), if_neg (by simpa using hne), if_neg (by omega)]; rfl
  have HSE := Lib.hid hse; clear hse
  have hfd := run_field1
  have hi0 := run_index0
  have hi1 := run_index1
  go_enter Tryd.func18, Tryd.ntmps18
  go_wp2_with fail
  refine (sup_find_some _ d p _ (hd.below (below_alloc _ _)) hk hin hne).mono ?_
  rintro e w1 ⟨pa, sa, pb, sb, rfl, hpa, hsa, hpb, hsb, hb1⟩
  obtain ⟨pa1, pa2, rfl, hpa1⟩ := hpa.ex
  obtain ⟨sa1, sa2, rfl, hsa1⟩ := hsa.ex
  obtain ⟨pb1, pb2, rfl, hpb1⟩ := hpb.ex
  obtain ⟨sb1, sb2, rfl, hsb1⟩ := hsb.ex
  have hB1 : Below w.heap.size w w1 := below_step (below_alloc _ _) hb1
  rw [h8A] at hsa ⊢
  rw [h8B] at hsb ⊢
  clear h8A h8B hb1
  go_wp2
  refine wp_loop_rounds 3 ?_
  rw [rounds_succ]; go_wp2
  go_loopw [11, 37] (fun t i wr => ∃ k : Nat, k ≤ 8 ∧ i = .int .i64 k ∧ t = .int .i64 (topOf ((supA d p).take k) (0)) ∧ Below w1.heap.size w1 wr)
    (fun _ i _ => 8 - (intOf i).toNat)
  case atStart => exact ⟨0, by omega, rfl, by simp [topOf], by first | exact below_alloc2 _ _ _ | exact Below.alloc (by assumption) (Below.size (by assumption)) _⟩
  case round =>
    obtain ⟨k, hk, rfl, rfl, hBw⟩ := hrel
    by_cases hlt : k < 8
    · obtain ⟨s, hs'⟩ : ∃ s, (supA d p)[k]? = some s := ⟨_, List.getElem?_eq_getElem (by rw [HA.out]; exact hlt)⟩
      obtain ⟨b', o', he, hsec⟩ := (hsa1.1.below hBw).sec hs'
      subst he
      obtain ⟨q0, q1, q2, q3, q4, q5, q6, q7⟩ := hsec
      have HK := Lib.hid hs'; clear hs'
      have hgl := gen_lt s
      have htl := topOf_lt ((supA d p).take k) (0) (by omega)
      go_wp2_with (go_at_call 34; refine (sup_generation s _).mono ?_; rintro e w3 ⟨rfl, hb3⟩)
      go_roundw
      case rel => exact ⟨k + 1, by omega, by go_num, by rw [← topOf_snoc _ k s HK.out]; go_num, below_step (hBw.alloc hBw.size _) hb3⟩
      case measure => simp [intOf]; omega
    · obtain rfl : k = 8 := by omega
      have hT : (supA d p).take 8 = supA d p := List.take_of_length_le (by rw [HA.out]; omega)
      rw [hT]
      clear hT
      go_wp2
      rw [rounds_succ]; go_wp2
      go_loopw [11, 37] (fun t i wr => ∃ k : Nat, k ≤ 8 ∧ i = .int .i64 k ∧ t = .int .i64 (topOf ((supB d p).take k) (topOf (supA d p) 0)) ∧ Below w1.heap.size w1 wr)
        (fun _ i _ => 8 - (intOf i).toNat)
      case atStart => exact ⟨0, by omega, rfl, by simp [topOf], by first | exact below_alloc2 _ _ _ | exact Below.alloc (by assumption) (Below.size (by assumption)) _⟩
      case round =>
        obtain ⟨k, hk, rfl, rfl, hBw⟩ := hrel
        by_cases hlt : k < 8
        · obtain ⟨s, hs'⟩ : ∃ s, (supB d p)[k]? = some s := ⟨_, List.getElem?_eq_getElem (by rw [HB.out]; exact hlt)⟩
          obtain ⟨b', o', he, hsec⟩ := (hsb1.1.below hBw).sec hs'
          subst he
          obtain ⟨q0, q1, q2, q3, q4, q5, q6, q7⟩ := hsec
          have HK := Lib.hid hs'; clear hs'
          have hgl := gen_lt s
          have htl := topOf_lt ((supB d p).take k) (topOf (supA d p) 0) (topOf_lt _ _ (by omega))
          go_wp2_with (go_at_call 34; refine (sup_generation s _).mono ?_; rintro e w3 ⟨rfl, hb3⟩)
          go_roundw
          case rel => exact ⟨k + 1, by omega, by go_num, by rw [← topOf_snoc _ k s HK.out]; go_num, below_step (hBw.alloc hBw.size _) hb3⟩
          case measure => simp [intOf]; omega
        · obtain rfl : k = 8 := by omega
          have hT : (supB d p).take 8 = supB d p := List.take_of_length_le (by rw [HB.out]; omega)
          rw [hT]
          clear hT
          go_wp2
          have hTT := supTop_parts d p
          have hTl := supTop_lt d p
          rw [← hTT] at hTl
          generalize topOf (supB d p) (topOf (supA d p) 0) = T at hTT hTl ⊢
          have hsn : supNew d p ≤ 1 := by rw [supNew]; split <;> omega
          by_cases hTm : T = 4294967295
          · subst hTm
            have HTT := Lib.hid hTT; clear hTT
            rw [rounds_succ]; go_wp2
            go_ret2
            exact ret_st_nil (by rw [HSE.out, ← HTT.out]; rfl) (by decide) (below_step hB1 hBw)
          · have t1 : ((T : Int) == 4294967295) = false := by rw [beq_eq_false_iff_ne]; omega
            have t2 : T + 1 < 4294967296 := by omega
            have hse0 : Hid (storeErr d p xs = 0) := Lib.hid (by rw [HSE.out, ← hTT, if_neg hTm])
            have HTT := Lib.hid hTT; clear hTT
            rw [rounds_succ]
            go_wp2_with (go_at_call 27; refine (sup_put8 (T + 1) _ xs _ t2 (hu.below (below_step hB1 hBw)) hx).mono ?_; rintro e w3 ⟨g, cap, rfl, ho3, hb3⟩)
            go_ret2
            have hz : Below w.heap.size w w3 := below_step (below_step hB1 hBw) hb3
            refine ⟨_, by rw [hse0.out]; rfl, ?_, hz.alloc hz.size _⟩
            rw [storeRes, if_pos hse0.out]
            have ho : storeOps d (p : Int).toNat xs = [⟨0, ↑p + (1 - ↑(supNew d p)) * 8, copySecs (T + 1) xs⟩, ⟨1, 0, []⟩] := by
              rw [Int.toNat_natCast, storeOps, HTT.out, show (p : Int) + (8 - 8 * (supNew d p : Int)) = ↑p + (1 - ↑(supNew d p)) * 8 from by omega]
            rw [ho]
            exact two_rep rfl ho3
theorem sup_Store_find (v : Value) (d : Disk) (p : Int) (n : Int) (u : Value) (xs : List UInt8) (w : World) (hd : DiskRep w v d) (hn : n = 2 ∨ n = 9) (hp : -9223372036854775808 ≤ p ∧ p ≤ 9223372036854775807) (hf : ∀ w', DiskRep w' v d → Calls Tryd.prog 31 #[v, .int .i64 p] w' (RetFindNone w' n)) (he : storeErr d p xs = n) :
    Calls Tryd.prog 18 #[v, .int .i64 p, u] w (RetOps w (storeRes d p xs) (storeErr d p xs)) := by
  obtain ⟨s0, c0, rfl, _, _⟩ := hd.ex
  have hne : (n != 0) = true := by rcases hn with rfl | rfl <;> rfl
  have HF := Lib.hid hf; have HN := Lib.hid hn; have HE := Lib.hid he; clear hf hn he
  go_enter Tryd.func18, Tryd.ntmps18
  go_wp2_with fail
  refine (HF.out _ (hd.below (below_alloc _ _))).mono ?_
  rintro e w1 ⟨g0, g1, j, u0, u1, u2, u3, n0, n1, n2, n3, k0, k1, k2, k3, rfl, hb1⟩
  go_wp2
  go_ret2
  exact ret_st_nil HE.out (by rcases HN.out with rfl | rfl <;> decide) (below_step (below_step (below_alloc _ _) hb1) (below_alloc _ _))
set_option maxRecDepth 100000 in
set_option maxHeartbeats 4000000 in
theorem sup_Store_long (v : Value) (d : Disk) (p : Nat) (u : Value) (xs : List UInt8) (w : World) (hd : DiskRep w v d) (hk : d.ok = true) (hin : insideB d.stable.length p 16 = true) (hne : supGen d p ≠ 0) (hu : SlRep w u xs) (hx : 31 < xs.length) :
    Calls Tryd.prog 18 #[v, .int .i64 p, u] w (RetOps w (storeRes d p xs) (storeErr d p xs)) := by
  obtain ⟨s0, c0, rfl, _, _⟩ := hd.ex
  obtain ⟨a, c, rfl, _⟩ := hu.ex
  have hse : storeErr d p xs = 5 := by
    rw [storeErr, hk, hin, if_neg (by simp), if_neg (by simpa using hne), if_pos hx]
  have HSE := Lib.hid hse; clear hse
  go_enter Tryd.func18, Tryd.ntmps18
  go_wp2_with fail
  refine (sup_find_some _ d p _ (hd.below (below_alloc _ _)) hk hin hne).mono ?_
  rintro e w1 ⟨pa, sa, pb, sb, rfl, hpa, hsa, hpb, hsb, hb1⟩
  obtain ⟨pa1, pa2, rfl, hpa1⟩ := hpa.ex
  obtain ⟨sa1, sa2, rfl, hsa1⟩ := hsa.ex
  obtain ⟨pb1, pb2, rfl, hpb1⟩ := hpb.ex
  obtain ⟨sb1, sb2, rfl, hsb1⟩ := hsb.ex
  go_wp2
  go_ret2
  exact ret_st_nil HSE.out (by decide) (below_step (below_step (below_alloc _ _) hb1) (below_alloc _ _))
theorem sup_Store (v : Value) (d : Disk) (p : Int) (u : Value) (xs : List UInt8) (w : World) (hd : DiskRep w v d) (hp : -9223372036854775808 ≤ p ∧ p ≤ 9223372036854775807) (hu : SlRep w u xs) :
    Calls Tryd.prog 18 #[v, .int .i64 p, u] w (RetOps w (storeRes d p xs) (storeErr d p xs)) := by
  by_cases h1 : (d.ok && insideB d.stable.length p 16) = false
  · exact sup_Store_find v d p 2 u xs w hd (.inl rfl) hp (fun w' h => sup_find_none v d p w' h h1) (by rw [storeErr, if_pos h1])
  · simp only [Bool.not_eq_false, Bool.and_eq_true] at h1
    obtain ⟨hk, hin⟩ := h1
    obtain ⟨k, rfl⟩ : ∃ k : Nat, p = k := ⟨p.toNat, by simp [insideB] at hin; omega⟩
    by_cases h0 : supGen d k = 0
    · exact sup_Store_find v d k 9 u xs w hd (.inr rfl) hp (fun w' h => sup_find_zero v d k w' h hk hin h0) (by rw [storeErr, hk, hin, if_neg (by simp), if_pos (by simpa using h0)])
    · by_cases hx : 31 < xs.length
      · exact sup_Store_long v d k u xs w hd hk hin h0 hu hx
      · exact sup_Store_ok v d k u xs w hd hk hin h0 hu (by omega)
end Go.Proofs.YtnddgpkljpjjbaaDoor
