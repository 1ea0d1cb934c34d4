/- 'append(s, make([]api.Sector, 30)...)' onto a slice that the call itself has made. -/
import Derived.Test.YtnddgpkljpjjbaaDoorVMap
namespace Go.Proofs.YtnddgpkljpjjbaaDoor
open Go.RowKit
set_option linter.unusedVariables false
set_option linter.unusedSimpArgs false
set_option maxRecDepth 100000
def zeroVals (n : Nat) : List Value := (List.replicate n Sec.zero.cells).flatten
theorem zeroCells30 : Builtin.zeroCells #[.int .u8 0, .int .u8 0, .int .u8 0, .int .u8 0, .int .u8 0, .int .u8 0, .int .u8 0, .int .u8 0] 30 = (zeroVals 30).toArray := by kernel_rfl
theorem zeroVals_len : (zeroVals 30).length = 240 := by rfl
theorem zeroVals_one : ∀ u ∈ zeroVals 30, u.oneCell' = true := by
  intro u hu
  obtain ⟨cs, hcs, hu⟩ := List.mem_flatten.1 hu
  obtain rfl := List.eq_of_mem_replicate hcs
  simp [Sec.cells, Sec.zero] at hu
  subst hu; rfl
theorem infoSec : ∃ i, Tryd.prog.info? 57 = some i ∧ i.zero = some (.agg #[.int .u8 0, .int .u8 0, .int .u8 0, .int .u8 0, .int .u8 0, .int .u8 0, .int .u8 0, .int .u8 0]) ∧ i.size = 8 ∧ i.bytes = 8 := by
  exact info_parts (by kernel_rfl)
theorem run_zeros_room {w : World} (ty : TypeId) (g n cap : Nat) (cur : Array Value) (hg : w.heap[g]? = some (.cells cur 57 (0, 0))) (hroom : n + 30 ≤ cap) (hfit : n * 8 + 240 ≤ cur.size) :
    (Builtin.append_ #[32, 3] ty #[.slice (some ⟨g, 0, none⟩) n cap, .int .i64 30]).run Tryd.prog w =
      .ok (.slice (some ⟨g, 0, none⟩) (n + 30) cap) (w.setRow g (cur.toList.take (n * 8) ++ zeroVals 30 ++ cur.toList.drop (n * 8 + 240)).toArray) := by
  obtain ⟨i, hi, hz, hs, hb⟩ := infoSec
  have hst := run_storeCells_at Tryd.prog g (n * 8) 57 (zeroVals 30) 0 cur w hg (by rw [zeroVals_len]; simpa using hfit) zeroVals_one
  simp only [Nat.add_zero, zeroVals_len] at hst
  have h30 : IntKind.i64.wrap 30 = 30 := by rfl
  simp [Builtin.append_, run_underlying Tryd.underlying32, run_underlying Tryd.underlying3, sizeOf, typeInfo, zeroValue, hi, hz, hs, hb, asInt, asIntOf, h30, hroom, zeroCells30, Addr.add_lit, hst, Value.cells]
theorem run_zeros_grow {w : World} (ty : TypeId) (g n cap : Nat) (olds : List Value) (hlo : olds.length = n * 8) (holds : ∀ j v, olds[j]? = some v → w.cell? ((⟨g, 0, none⟩ : Addr).add j) = some v) (hroom : cap < n + 30) (hn : n ≤ 1000) :
    (Builtin.append_ #[32, 3] ty #[.slice (some ⟨g, 0, none⟩) n cap, .int .i64 30]).run Tryd.prog w =
      .ok (.slice (some ⟨w.heap.size, 0, none⟩) (n + 30) (grownCap w (n + 30) cap 57))
        (w.drew.alloc (.cells (olds.toArray ++ (zeroVals 30).toArray ++ Builtin.zeroCells #[.int .u8 0, .int .u8 0, .int .u8 0, .int .u8 0, .int .u8 0, .int .u8 0, .int .u8 0, .int .u8 0] (grownCap w (n + 30) cap 57 - (n + 30))) 57)) := by
  obtain ⟨i, hi, hz, hs, hb⟩ := infoSec
  have h30 : IntKind.i64.wrap 30 = 30 := by rfl
  have hn' : ¬ (n + 30 ≤ cap) := by omega
  have h63' : ¬ (9223372036854775807 < ((n : Int) + 30)) := by omega
  have h64' : ¬ (9223372036854775807 < ((n : Int) + max 30 0)) := by simp; omega
  have hfit : Builtin.nextslicecap (n + 30) cap * i.bytes ≤ 281474976710656 := growslice_fits (by omega) (by rw [hb]; omega)
  rw [hb] at hfit
  have h48' : ¬ (281474976710656 < Builtin.nextslicecap (n + 30) cap * 8) := by omega
  have hfo := run_firstCells_some (P := Tryd.prog) w.drew 8 n ⟨g, 0, none⟩ n cap olds hlo (by simpa using holds)
  simp [Builtin.append_, run_underlying Tryd.underlying32, run_underlying Tryd.underlying3, sizeOf, typeInfo, zeroValue, hi, hz, hs, hb, asInt, asIntOf, h30, hn', h63', h64', h48', Question.forced, hfo, newRow, grownCap, zeroCells30, Value.cells]
  congr 2
  apply Array.ext'
  simp [List.append_assoc]
/-- thirty zero sectors more -/
theorem run_zeros {B : Nat} {w : World} (ty : TypeId) (g n cap : Nat) (xs : List Sec) (hown : Own B 57 w (.slice (some ⟨g, 0, none⟩) n cap) xs) (hx : xs.length = n) (hn : n ≤ 1000) (hB : B ≤ w.heap.size) :
    ∃ v' w', (Builtin.append_ #[32, 3] ty #[.slice (some ⟨g, 0, none⟩) n cap, .int .i64 30]).run Tryd.prog w = .ok v' w' ∧ Own B 57 w' v' (xs ++ List.replicate 30 Sec.zero) ∧ w.grownBy w' (some g) := by
  subst hx
  obtain ⟨css, h0, h1, hl, hor⟩ := hown.ex
  have hlf : css.flatten.length = xs.length * 8 := hl
  have happ : ∀ {w' : World} {v' : Value}, w'.ownsRow B 57 8 v' (xs.length + 30) (css.flatten ++ zeroVals 30) → Own B 57 w' v' (xs ++ List.replicate 30 Sec.zero) := fun {w' v'} hh => by
    refine Own.app (dss := List.replicate 30 Sec.zero.cells) h0 (fun i x cs hx hc => PlainRep.free (h1 i x cs hx hc)) (by simp) (fun i x cs hx hc => ?_) (by rw [List.length_replicate]; exact hh)
    rw [List.getElem?_replicate] at hx hc
    split at hx
    · rename_i hi
      rw [if_pos hi] at hc
      injection hx with hx; injection hc with hc
      subst hx hc; rfl
    · cases hx
  rcases hor with ⟨e, _⟩ | ⟨g', cap', cur, e, hbg, hg, hnc, hcm, hcs, htake⟩
  · cases e
  · injection e with e1 _ e2
    injection e1 with e1; injection e1 with e1
    subst e1 e2
    by_cases hroom : xs.length + 30 ≤ cap
    · have hsz : cur.size = cap * 8 := hcs
      have hr := run_zeros_room ty g xs.length cap cur hg hroom (by omega)
      refine ⟨_, _, hr, happ ⟨by rw [List.length_append, hlf, zeroVals_len]; omega, .inr ⟨g, cap, _, rfl, hbg, setRow_heap w g cur _ 57 _ hg, hroom, hcm, ?_, ?_⟩⟩, ⟨rfl, rfl, rfl, by simp, fun k _ hk => setRow_other w g k _ (fun e => hk (by simp [e]))⟩⟩
      · simp only [List.size_toArray, List.length_append, List.length_take, List.length_drop, Array.length_toList, zeroVals_len]
        omega
      · have ht : cur.toList.take (xs.length * 8) = css.flatten := htake
        rw [ht]
        have : (xs.length + 30) * 8 = (css.flatten ++ zeroVals 30).length := by rw [List.length_append, hlf, zeroVals_len]; omega
        exact List.take_left' this.symm
    · have holds : ∀ j u, css.flatten[j]? = some u → w.cell? ((⟨g, 0, none⟩ : Addr).add j) = some u := World.ownsRow.cells (g := g) (⟨hl, .inr ⟨g, cap, cur, rfl, hbg, hg, hnc, hcm, hcs, htake⟩⟩) rfl
      have hr := run_zeros_grow ty g xs.length cap css.flatten hlf holds (by omega) hn
      have hge := grownCap_ge w (xs.length + 30) cap 57
      have hcm' : grownCap w (xs.length + 30) cap 57 ≤ maxLen := grownCap_le_maxLen w (xs.length + 30) cap 57 (by simp [maxLen]; omega)
      refine ⟨_, _, hr, happ ⟨by rw [List.length_append, hlf, zeroVals_len]; omega, .inr ⟨w.heap.size, _, _, rfl, hB, heap_alloc_new w.drew _, hge, hcm', ?_, ?_⟩⟩, ⟨rfl, rfl, rfl, by simp, fun k hk _ => heap_alloc_old w.drew _ k hk⟩⟩
      · simp only [Array.size_append, List.size_toArray, size_zeroCells, hlf, zeroVals_len]
        simp
        omega
      · simp only [Array.toList_append, List.append_assoc]
        rw [← List.append_assoc]
        have : (xs.length + 30) * 8 = (css.flatten ++ zeroVals 30).length := by rw [List.length_append, hlf, zeroVals_len]; omega
        exact List.take_left' this.symm
/-- append at the operation, by an equation on its run -/
theorem wpList_append_run {P : Program} {w : World} {ops : Array Oper} {rest : List Oper} {o : Oper} {a : Act} {Q : Exit → Act → World → Prop} (hgd : o.guard = none) (s x : Operand) (t u : TypeId)
    (ho : o.op = .call { callee := .builtin .append, args := #[s, x], argTypes := #[t, u] }) (v vy v' : Value) (w' : World) (hs : a.eval s = v) (hx : a.eval x = vy) (hrun : (Builtin.append_ #[t, u] o.type #[v, vy]).run P w = .ok v' w')
    (h : wpList P ops Q rest (a.put o.dst v') w') : wpList P ops Q (o :: rest) a w := by
  refine wpList_plain hgd fun K hK => ?_
  unfold Oper.wp
  simp [execOp, ho, resolve, invoke, builtin, hs, hx, hrun, Result.andThen]
  exact hK _ _ h
end Go.Proofs.YtnddgpkljpjjbaaDoor
