/- superblock.Format and the reference's. -/
import Derived.Test.YtnddgpkljpjjbaaDoorPut
namespace Go.Proofs.YtnddgpkljpjjbaaDoor
open Go.RowKit
set_option linter.unusedVariables false
set_option linter.unusedSimpArgs false
theorem wp_make_Own {α : Type} [PlainRep α] {P : Program} {w : World} {o : Oper} {a : Act} {K : Act → World → Prop} {Q : Exit → Act → World → Prop}
    (hg : o.guard = none) (l c : Operand) (t e : TypeId) (hop : o.op = Op.makeSlice t l c) (bytes : Nat) (x0 : α) (hE : Elem0 P t e bytes x0)
    (base : Nat) (kl kc : IntKind) (L C : Int) (n : Nat) (hl : a.eval l = .int kl L) (hc : a.eval c = .int kc C) (hL : L = (n : Int)) (hC : C = (n : Int)) (b2 : bytes * n ≤ 281474976710656) (b3 : n ≤ 9223372036854775807) (b4 : base ≤ w.heap.size)
    (hK : ∀ w', Own base e w' (.slice (some ⟨w.heap.size, 0, none⟩) n n) (List.replicate n x0) → w.grownBy w' none → K (a.put o.dst (.slice (some ⟨w.heap.size, 0, none⟩) n n)) w') :
    o.wp P a w K Q := by
  obtain ⟨ht, i, z, hi, hz, hsz, hby, hzs, hx⟩ := hE.ex
  obtain ⟨w', hrun, r1, r2⟩ := run_make_full (P := P) w base t e i z (Rep.size α) ht hi hz hsz kl kc n (by rw [hby]; exact b2) (by simpa [maxLen] using b3) b4
  subst hL
  subst hC
  unfold Oper.wp
  simp [execOp, hop, hl, hc, hrun, Result.andThen]
  refine hK w' ⟨List.replicate n z.cells.toList, by simp, ?_, ?_⟩ r2
  · intro j x cs h1 h2
    rw [List.getElem?_replicate] at h1 h2
    split at h1
    · rename_i hj
      rw [if_pos hj] at h2
      injection h1 with h1; injection h2 with h2
      subst h1; subst h2
      exact hx w'
    · cases h1
  · rw [← madeCells_flat _ _ _ hzs Rep.pos]
    simpa using r1
theorem step_make_Own {α : Type} [PlainRep α] {P : Program} {w : World} {ops : Array Oper} {o : Oper} {a : Act} {K : Act → World → Prop} {Q : Exit → Act → World → Prop} {E : Prop}
    (hg : o.guard = none) (l c : Operand) (t e : TypeId) (hop : o.op = Op.makeSlice t l c) (bytes : Nat) (x0 : α) (hE : Elem0 P t e bytes x0)
    (base : Nat) (kl kc : IntKind) (L C : Int) (n : Nat) (hl : a.eval l = .int kl L) (hc : a.eval c = .int kc C) (hL : L = (n : Int)) (hC : C = (n : Int)) (b2 : bytes * n ≤ 281474976710656) (b3 : n ≤ 9223372036854775807) (b4 : base ≤ w.heap.size)
    (hK : ∀ w', Own base e w' (.slice (some ⟨w.heap.size, 0, none⟩) n n) (List.replicate n x0) → w.grownBy w' none → K (a.put o.dst (.slice (some ⟨w.heap.size, 0, none⟩) n n)) w') :
    if Region.wanted o (yielded ops a.tmps) = true then o.wp P a w K Q else E := by
  rw [if_pos (by simp [Region.wanted, hg])]
  exact wp_make_Own hg l c t e hop bytes x0 hE base kl kc L C n hl hc hL hC b2 b3 b4 hK
set_option maxRecDepth 100000 in
theorem make16 : ∃ f : World → World, (∀ w, Sem.run Tryd.prog (Instr.makeSlice 32 (.int .i64 16) (.int .i64 16)) w = .ok (.slice (some ⟨w.heap.size, 0, none⟩) 16 16) (f w)) ∧ (∀ w, Below w.heap.size w (f w)) ∧ (∀ w, SlRep (f w) (.slice (some ⟨w.heap.size, 0, none⟩) 16 16) (List.replicate 16 Sec.zero)) := by
  have key : ∀ w, ∃ w', Sem.run Tryd.prog (Instr.makeSlice 32 (.int .i64 16) (.int .i64 16)) w = .ok (.slice (some ⟨w.heap.size, 0, none⟩) 16 16) w' ∧ Below w.heap.size w w' ∧ SlRep w' (.slice (some ⟨w.heap.size, 0, none⟩) 16 16) (List.replicate 16 Sec.zero) := by
    intro w
    obtain ⟨ht, i, z, hi, hz, hsz, hby, hzs, hx⟩ := el0Sec.ex
    obtain ⟨w', hrun, r1, r2⟩ := run_make_full (P := Tryd.prog) w w.heap.size 32 57 i z 8 ht hi hz hsz .i64 .i64 16 (by rw [hby]; omega) (by simp [maxLen]) (Nat.le_refl _)
    refine ⟨w', hrun, below_of_grown r2, ?_⟩
    have ho : Own w.heap.size 57 w' (.slice (some ⟨w.heap.size, 0, none⟩) 16 16) (List.replicate 16 Sec.zero) := by
      refine ⟨List.replicate 16 z.cells.toList, by simp, ?_, ?_⟩
      · intro j x cs h1 h2
        rw [List.getElem?_replicate] at h1 h2
        split at h1
        · rename_i hj
          rw [if_pos hj] at h2
          injection h1 with h1; injection h2 with h2
          subst h1; subst h2
          exact hx w'
        · cases h1
      · rw [← madeCells_flat _ (Rep.size Sec) _ hzs Rep.pos, List.length_replicate]
        exact r1
    have hs := ho.sl
    exact hs
  exact ⟨fun w => Classical.choose (key w), fun w => (Classical.choose_spec (key w)).1, fun w => (Classical.choose_spec (key w)).2.1, fun w => (Classical.choose_spec (key w)).2.2⟩
def RetOps (w : World) (ops : List OpD) (n : Int) (e : Ending) (w' : World) : Prop := ∃ v, e = .returned (.tuple #[v, .int .i64 n]) ∧ SlRep w' v ops ∧ Below w.heap.size w w'
def fmtOps (at_ : Int) (xs : List UInt8) : List OpD := [⟨0, at_, List.replicate 16 Sec.zero⟩, ⟨1, 0, []⟩, ⟨0, at_, copySecs 1 xs⟩, ⟨1, 0, []⟩]
theorem sup_put8 (n : Nat) (v : Value) (xs : List UInt8) (w : World) (hn : n < 4294967296) (hv : SlRep w v xs) (hx : xs.length ≤ 31) :
    Calls Tryd.prog 27 #[.int .i64 n, v] w (fun e w' => ∃ g cap, e = .returned (.agg #[.int .i64 n, v, .slice (some ⟨g, 0, none⟩) 8 cap]) ∧ SlRep w' (.slice (some ⟨g, 0, none⟩) 8 cap) (copySecs n xs) ∧ Below w.heap.size w w') := by
  refine (sup_put n v xs w hn hv hx).mono ?_
  rintro e w' ⟨sv, rfl, ho, hb⟩
  have h8 : (copySecs n xs).length = 8 := rfl
  obtain ⟨g, cap, rfl, _⟩ := ho.shape (by rw [h8]; omega)
  rw [h8] at ho ⊢
  exact ⟨g, cap, rfl, ho.sl, hb⟩
theorem run_field1 (a b : Value) (ad : Option Addr) (n c : Nat) (w : World) : Sem.run Tryd.prog (Instr.field 71 (.agg #[a, b, .slice ad n c]) 1) w = .ok (.slice ad n c) w := by
  simp only [Instr.field]
  go_simp
  rfl
theorem fmt_rep {w : World} {v1 v2 : Value} {p : Int} {xs : List UInt8} {t : TypeId} {b : Nat} (hb : b = w.heap.size) (h1 : SlRep w v1 (List.replicate 16 Sec.zero)) (h2 : SlRep w v2 (copySecs 1 xs)) :
    SlRep (w.alloc (.cells #[.int .i64 0, .int .i64 p, v1, .int .i64 1, .int .i64 0, .slice none 0 0, .int .i64 0, .int .i64 p, v2, .int .i64 1, .int .i64 0, .slice none 0 0] t)) (.slice (some ⟨b, 0, none⟩) 4 4) (fmtOps p xs) := by
  subst hb
  refine SlRep.two (xs := fmtOps p xs) [[.int .i64 0, .int .i64 p, v1], [.int .i64 1, .int .i64 0, .slice none 0 0], [.int .i64 0, .int .i64 p, v2], [.int .i64 1, .int .i64 0, .slice none 0 0]] rfl ?_ rfl (by simp [fmtOps])
  intro i x c hx hc
  have hba := below_alloc w (.cells #[.int .i64 0, .int .i64 p, v1, .int .i64 1, .int .i64 0, .slice none 0 0, .int .i64 0, .int .i64 p, v2, .int .i64 1, .int .i64 0, .slice none 0 0] t)
  match i, hx, hc with
  | 0, hx, hc => cases hx; cases hc; exact ⟨_, rfl, h1.below hba⟩
  | 1, hx, hc => cases hx; cases hc; exact ⟨_, rfl, SlRep.nil _⟩
  | 2, hx, hc => cases hx; cases hc; exact ⟨_, rfl, h2.below hba⟩
  | 3, hx, hc => cases hx; cases hc; exact ⟨_, rfl, SlRep.nil _⟩
  | i + 4, hx, hc => simp at hc
set_option maxRecDepth 100000 in
set_option maxHeartbeats 2000000 in
theorem sup_Format_ok (p : Nat) (v : Value) (xs : List UInt8) (w : World) (hv : SlRep w v xs) (hp : p ≤ 4080) (hx : xs.length ≤ 31) :
    Calls Tryd.prog 11 #[.int .i64 p, v] w (RetOps w (fmtOps p xs) 0) := by
  obtain ⟨a, c, rfl, _⟩ := hv.ex
  obtain ⟨f, hmk, hmb, hms⟩ := make16
  have HMB := Lib.hid hmb; have HMS := Lib.hid hms; clear hmb hms
  have hfd := run_field1
  go_enter Tryd.func11, Tryd.ntmps11
  go_wp2
  go_region_held3 (fun w' => Below w.heap.size w w') (first | exact below_drew _ | exact below_step (by assumption) hb3 | exact below_step (by assumption) (HMB.out _) | exact Below.alloc (by assumption) (Below.size (by assumption)) _ | go_keep)
    (first
      | (go_at_call 27; refine (sup_put8 1 _ xs _ (by omega) (hv.below (by assumption)) hx).mono ?_; rintro e w3 ⟨g, cap, rfl, ho3, hb3⟩))
  all_goals
    go_wp2
    go_ret2
    first
      | exact ⟨_, rfl, fmt_rep rfl ((HMS.out w.drew).below hb3) ho3, by assumption⟩
      | exact ⟨_, rfl, fmt_rep rfl (HMS.out w3) (ho3.below (HMB.out w3)), by assumption⟩
theorem copyOf8 (n : Nat) (v : Value) (xs : List UInt8) (w : World) (hn : n < 4294967296) (hv : SlRep w v xs) (hx : xs.length ≤ 31) :
    Calls Tryd.prog 29 #[.int .u32 n, v] w (fun e w' => ∃ g cap, e = .returned (.slice (some ⟨g, 0, none⟩) 8 cap) ∧ SlRep w' (.slice (some ⟨g, 0, none⟩) 8 cap) (copySecs n xs) ∧ Below w.heap.size w w') := by
  refine (ref12_copyOf n v xs w hn hv hx).mono ?_
  rintro e w' ⟨sv, rfl, ho, hb⟩
  have h8 : (copySecs n xs).length = 8 := rfl
  obtain ⟨g, cap, rfl, _⟩ := ho.shape (by rw [h8]; omega)
  rw [h8] at ho ⊢
  exact ⟨g, cap, rfl, ho.sl, hb⟩
set_option maxRecDepth 100000 in
set_option maxHeartbeats 2000000 in
theorem ref12_Format_ok (p : Nat) (v : Value) (xs : List UInt8) (w : World) (hv : SlRep w v xs) (hp : p ≤ 4080) (hx : xs.length ≤ 31) :
    Calls Tryd.prog 12 #[.int .i64 p, v] w (RetOps w (fmtOps p xs) 0) := by
  obtain ⟨a, c, rfl, _⟩ := hv.ex
  obtain ⟨f, hmk, hmb, hms⟩ := make16
  have HMB := Lib.hid hmb; have HMS := Lib.hid hms; clear hmb hms
  go_enter Tryd.func12, Tryd.ntmps12
  go_wp2_with (go_at_call 28; refine (ref12_Capacity _).mono ?_; rintro e w1 ⟨rfl, rfl⟩)
  go_region_held3 (fun w' => Below w.heap.size w w') (first | exact below_drew _ | exact below_step (by assumption) hb3 | exact below_step (by assumption) (HMB.out _) | exact Below.alloc (by assumption) (Below.size (by assumption)) _ | go_keep)
    (first
      | (go_at_call 29; refine (copyOf8 1 _ xs _ (by omega) (hv.below (by assumption)) hx).mono ?_; rintro e w3 ⟨g, cap, rfl, ho3, hb3⟩))
  all_goals
    go_wp2
    go_ret2
    first
      | exact ⟨_, rfl, fmt_rep rfl ((HMS.out w.drew).below hb3) ho3, by assumption⟩
      | exact ⟨_, rfl, fmt_rep rfl (HMS.out w3) (ho3.below (HMB.out w3)), by assumption⟩
def fmtErr (p : Int) (xs : List UInt8) : Int := if p < 0 ∨ p > 4080 then 2 else if xs.length > 31 then 5 else 0
def fmtRes (p : Int) (xs : List UInt8) : List OpD := if fmtErr p xs = 0 then fmtOps p xs else []
theorem ret_ops_nil {w w' : World} {p : Int} {xs : List UInt8} {k : Int} (hk : fmtErr p xs = k) (h0 : k ≠ 0) (hb : Below w.heap.size w w') : RetOps w (fmtRes p xs) (fmtErr p xs) (.returned (.tuple #[.slice none 0 0, .int .i64 k])) w' :=
  ⟨_, by rw [hk], by rw [fmtRes, hk, if_neg h0]; exact SlRep.nil _, hb⟩
set_option maxRecDepth 100000 in
set_option maxHeartbeats 2000000 in
theorem sup_Format (p : Int) (v : Value) (xs : List UInt8) (w : World) (hv : SlRep w v xs) (hp : -9223372036854775808 ≤ p ∧ p ≤ 9223372036854775807) :
    Calls Tryd.prog 11 #[.int .i64 p, v] w (RetOps w (fmtRes p xs) (fmtErr p xs)) := by
  by_cases h1 : p < 0 ∨ p > 4080
  · obtain ⟨a, c, rfl, _⟩ := hv.ex
    have hk : Hid (fmtErr p xs = 2) := Lib.hid (if_pos h1)
    go_enter Tryd.func11, Tryd.ntmps11
    by_cases h2 : p < 0
    · go_wp2
      go_ret2
      exact ret_ops_nil hk.out (by decide) (Below.refl _ _)
    · have h3 : 4080 < p := by omega
      go_wp2
      go_ret2
      exact ret_ops_nil hk.out (by decide) (Below.refl _ _)
  · by_cases h2 : xs.length > 31
    · obtain ⟨a, c, rfl, _⟩ := hv.ex
      have hk : Hid (fmtErr p xs = 5) := Lib.hid (by rw [fmtErr, if_neg h1, if_pos h2])
      have h3 : 0 ≤ p := by omega
      have h4 : p ≤ 4080 := by omega
      go_enter Tryd.func11, Tryd.ntmps11
      go_wp2
      go_ret2
      exact ret_ops_nil hk.out (by decide) (Below.refl _ _)
    · obtain ⟨k, rfl⟩ : ∃ k : Nat, p = k := ⟨p.toNat, by omega⟩
      have hk : fmtErr k xs = 0 := by rw [fmtErr, if_neg h1, if_neg h2]
      rw [fmtRes, hk, if_pos rfl]
      exact sup_Format_ok k v xs w hv (by omega) (by omega)
set_option maxRecDepth 100000 in
set_option maxHeartbeats 2000000 in
theorem ref12_Format (p : Int) (v : Value) (xs : List UInt8) (w : World) (hv : SlRep w v xs) (hp : -9223372036854775808 ≤ p ∧ p ≤ 9223372036854775807) :
    Calls Tryd.prog 12 #[.int .i64 p, v] w (RetOps w (fmtRes p xs) (fmtErr p xs)) := by
  by_cases h1 : p < 0 ∨ p > 4080
  · obtain ⟨a, c, rfl, _⟩ := hv.ex
    have hk : Hid (fmtErr p xs = 2) := Lib.hid (if_pos h1)
    go_enter Tryd.func12, Tryd.ntmps12
    by_cases h2 : p < 0
    · go_wp2
      go_ret2
      exact ret_ops_nil hk.out (by decide) (Below.refl _ _)
    · have h3 : 4080 < p := by omega
      go_wp2
      go_ret2
      exact ret_ops_nil hk.out (by decide) (Below.refl _ _)
  · by_cases h2 : xs.length > 31
    · obtain ⟨a, c, rfl, _⟩ := hv.ex
      have hk : Hid (fmtErr p xs = 5) := Lib.hid (by rw [fmtErr, if_neg h1, if_pos h2])
      have h3 : 0 ≤ p := by omega
      have h4 : p ≤ 4080 := by omega
      go_enter Tryd.func12, Tryd.ntmps12
      go_wp2_with (go_at_call 28; refine (ref12_Capacity _).mono ?_; rintro e w1 ⟨rfl, rfl⟩)
      go_ret2
      exact ret_ops_nil hk.out (by decide) (Below.refl _ _)
    · obtain ⟨k, rfl⟩ : ∃ k : Nat, p = k := ⟨p.toNat, by omega⟩
      have hk : fmtErr k xs = 0 := by rw [fmtErr, if_neg h1, if_neg h2]
      rw [fmtRes, hk, if_pos rfl]
      exact ref12_Format_ok k v xs w hv (by omega) (by omega)
end Go.Proofs.YtnddgpkljpjjbaaDoor
