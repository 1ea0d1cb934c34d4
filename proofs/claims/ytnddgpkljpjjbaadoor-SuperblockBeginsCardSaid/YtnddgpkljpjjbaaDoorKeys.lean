/- maps.Keys and slices.Sorted at the map of versions: the shelf's contracts, laid in plain words. -/
import Derived.Test.YtnddgpkljpjjbaaDoorVMap
import Derived.Maps.Range
import Derived.Shelf.SlIterI.Nil
import Derived.Shelf.SortM.Plain
import Derived.Shelf.SortM.SortNone
namespace Go.Proofs.YtnddgpkljpjjbaaDoor
open Go.Proofs Go.RowKit Go.Maps Go.Sort Go.Shelf
set_option linter.unusedVariables false
set_option linter.unusedSimpArgs false
def keysA_ren : Go.Shelf.Ren := ⟨fun | 7 => 50 | 10 => 64 | n => n, fun | 23 => 111 | 26 => 3 | 3 => 32 | 28 => 115 | 0 => 0 | 27 => 114 | 33 => 129 | 4 => 4 | n => n, fun | n => n⟩
theorem keysA : Go.Proofs.SlLaysZI.n7 Tryd.prog keysA_ren := {
  mixed := by kernel_rfl
  f7 := ⟨Tryd.f50.name, by decide, Tryd.func50.trans (congrArg some (by kernel_rfl))⟩
  f10 := ⟨Tryd.f64.name, by decide, Tryd.func64.trans (congrArg some (by kernel_rfl))⟩
  t0 := Tryd.underlying0
  a0 := Tryd.isAgg0
  z0 := Tryd.sizeOf0
  v0 := Tryd.zeroValue0
  t4 := Tryd.underlying4
  a4 := Tryd.isAgg4
  z4 := Tryd.sizeOf4
  v4 := Tryd.zeroValue4
  t23 := Tryd.underlying111
  a23 := Tryd.isAgg111
  z23 := Tryd.sizeOf111
  v23 := Tryd.zeroValue111
  t26 := Tryd.underlying3
  a26 := Tryd.isAgg3
  z26 := Tryd.sizeOf3
  v26 := Tryd.zeroValue3
  t27 := Tryd.underlying114
  a27 := Tryd.isAgg114
  z27 := Tryd.sizeOf114
  v27 := Tryd.zeroValue114
  t28 := Tryd.underlying115
  a28 := Tryd.isAgg115
  z28 := Tryd.sizeOf115
  v28 := Tryd.zeroValue115
  t33 := Tryd.underlying129
  a33 := Tryd.isAgg129
  z33 := Tryd.sizeOf129
  v33 := Tryd.zeroValue129 }
def sortedA_ren : Go.Shelf.Ren := ⟨fun | 6 => 49 | 8 => 62 | 9 => 63 | 11 => 69 | 13 => 71 | 12 => 70 | 23 => 84 | 24 => 85 | 14 => 75 | 15 => 76 | 16 => 77 | 17 => 78 | 18 => 79 | 19 => 80 | 20 => 81 | 21 => 82 | 22 => 83 | 25 => 88 | 26 => 89 | 27 => 90 | 28 => 91 | 29 => 92 | 30 => 93 | 31 => 95 | n => n, fun | 26 => 3 | 28 => 115 | 24 => 52 | 0 => 0 | 3 => 3 | 37 => 96 | 48 => 74 | 50 => 155 | 4 => 4 | 40 => 146 | 39 => 145 | 45 => 151 | 5 => 5 | 9 => 9 | 51 => 156 | 55 => 160 | 57 => 162 | 58 => 163 | 33 => 129 | n => n, fun | n => n⟩
theorem sortedA : Go.Proofs.SlLaysZI.n6 Tryd.prog sortedA_ren := {
  mixed := by kernel_rfl
  f6 := ⟨Tryd.f49.name, by decide, Tryd.func49.trans (congrArg some (by kernel_rfl))⟩
  f8 := ⟨Tryd.f62.name, by decide, Tryd.func62.trans (congrArg some (by kernel_rfl))⟩
  f11 := ⟨Tryd.f69.name, by decide, Tryd.func69.trans (congrArg some (by kernel_rfl))⟩
  t0 := Tryd.underlying0
  a0 := Tryd.isAgg0
  z0 := Tryd.sizeOf0
  v0 := Tryd.zeroValue0
  t24 := Tryd.underlying52
  a24 := Tryd.isAgg52
  z24 := Tryd.sizeOf52
  v24 := Tryd.zeroValue52
  t26 := Tryd.underlying3
  a26 := Tryd.isAgg3
  z26 := Tryd.sizeOf3
  v26 := Tryd.zeroValue3
  t28 := Tryd.underlying115
  a28 := Tryd.isAgg115
  z28 := Tryd.sizeOf115
  v28 := Tryd.zeroValue115
  i26 := by kernel_rfl }
def sortA_ren : Go.Shelf.Ren := ⟨fun | 5 => 63 | 8 => 71 | 7 => 70 | 19 => 84 | 20 => 85 | 10 => 75 | 11 => 76 | 12 => 77 | 13 => 78 | 14 => 79 | 15 => 80 | 16 => 81 | 17 => 82 | 18 => 83 | 30 => 88 | 31 => 89 | 32 => 90 | 33 => 91 | 34 => 92 | 35 => 93 | 40 => 95 | n => n, fun | 23 => 52 | 25 => 3 | 3 => 3 | 32 => 96 | 22 => 52 | 0 => 0 | 44 => 74 | 46 => 155 | 4 => 4 | 36 => 146 | 35 => 145 | 41 => 151 | 5 => 5 | 9 => 9 | 53 => 156 | 57 => 160 | 63 => 162 | 64 => 163 | n => n, fun | n => n⟩
theorem sortA : Go.Proofs.SlLaysM.n5 Tryd.prog sortA_ren := {
  mixed := by kernel_rfl
  f5 := ⟨Tryd.f63.name, by decide, Tryd.func63.trans (congrArg some (by kernel_rfl))⟩
  f7 := ⟨Tryd.f70.name, by decide, Tryd.func70.trans (congrArg some (by kernel_rfl))⟩
  f8 := Tryd.func71.trans (congrArg some (by kernel_rfl))
  f10 := ⟨Tryd.f75.name, by decide, Tryd.func75.trans (congrArg some (by kernel_rfl))⟩
  f11 := ⟨Tryd.f76.name, by decide, Tryd.func76.trans (congrArg some (by kernel_rfl))⟩
  f12 := ⟨Tryd.f77.name, by decide, Tryd.func77.trans (congrArg some (by kernel_rfl))⟩
  f13 := ⟨Tryd.f78.name, by decide, Tryd.func78.trans (congrArg some (by kernel_rfl))⟩
  f14 := ⟨Tryd.f79.name, by decide, Tryd.func79.trans (congrArg some (by kernel_rfl))⟩
  f15 := ⟨Tryd.f80.name, by decide, Tryd.func80.trans (congrArg some (by kernel_rfl))⟩
  f16 := ⟨Tryd.f81.name, by decide, Tryd.func81.trans (congrArg some (by kernel_rfl))⟩
  f17 := ⟨Tryd.f82.name, by decide, Tryd.func82.trans (congrArg some (by kernel_rfl))⟩
  f18 := ⟨Tryd.f83.name, by decide, Tryd.func83.trans (congrArg some (by kernel_rfl))⟩
  f19 := Tryd.func84.trans (congrArg some (by kernel_rfl))
  f20 := Tryd.func85.trans (congrArg some (by kernel_rfl))
  f30 := ⟨Tryd.f88.name, by decide, Tryd.func88.trans (congrArg some (by kernel_rfl))⟩
  f31 := Tryd.func89.trans (congrArg some (by kernel_rfl))
  f32 := Tryd.func90.trans (congrArg some (by kernel_rfl))
  f33 := ⟨Tryd.f91.name, by decide, Tryd.func91.trans (congrArg some (by kernel_rfl))⟩
  f34 := ⟨Tryd.f92.name, by decide, Tryd.func92.trans (congrArg some (by kernel_rfl))⟩
  f35 := ⟨Tryd.f93.name, by decide, Tryd.func93.trans (congrArg some (by kernel_rfl))⟩
  f40 := ⟨Tryd.f95.name, by decide, Tryd.func95.trans (congrArg some (by kernel_rfl))⟩
  t0 := Tryd.underlying0
  a0 := Tryd.isAgg0
  z0 := Tryd.sizeOf0
  v0 := Tryd.zeroValue0
  t3 := Tryd.underlying3
  a3 := Tryd.isAgg3
  z3 := Tryd.sizeOf3
  v3 := Tryd.zeroValue3
  t4 := Tryd.underlying4
  a4 := Tryd.isAgg4
  z4 := Tryd.sizeOf4
  v4 := Tryd.zeroValue4
  t5 := Tryd.underlying5
  a5 := Tryd.isAgg5
  z5 := Tryd.sizeOf5
  v5 := Tryd.zeroValue5
  t9 := Tryd.underlying9
  a9 := Tryd.isAgg9
  z9 := Tryd.sizeOf9
  v9 := Tryd.zeroValue9
  t22 := Tryd.underlying52
  a22 := Tryd.isAgg52
  z22 := Tryd.sizeOf52
  v22 := Tryd.zeroValue52
  t23 := Tryd.underlying52
  a23 := Tryd.isAgg52
  z23 := Tryd.sizeOf52
  v23 := Tryd.zeroValue52
  t25 := Tryd.underlying3
  a25 := Tryd.isAgg3
  z25 := Tryd.sizeOf3
  v25 := Tryd.zeroValue3
  t32 := Tryd.underlying96
  a32 := Tryd.isAgg96
  z32 := Tryd.sizeOf96
  v32 := Tryd.zeroValue96
  t35 := Tryd.underlying145
  a35 := Tryd.isAgg145
  z35 := Tryd.sizeOf145
  v35 := Tryd.zeroValue145
  t36 := Tryd.underlying146
  a36 := Tryd.isAgg146
  z36 := Tryd.sizeOf146
  v36 := Tryd.zeroValue146
  t41 := Tryd.underlying151
  a41 := Tryd.isAgg151
  z41 := Tryd.sizeOf151
  v41 := Tryd.zeroValue151
  t44 := Tryd.underlying74
  a44 := Tryd.isAgg74
  z44 := Tryd.sizeOf74
  v44 := Tryd.zeroValue74
  t46 := Tryd.underlying155
  a46 := Tryd.isAgg155
  z46 := Tryd.sizeOf155
  v46 := Tryd.zeroValue155
  t53 := Tryd.underlying156
  a53 := Tryd.isAgg156
  z53 := Tryd.sizeOf156
  v53 := Tryd.zeroValue156
  t57 := Tryd.underlying160
  a57 := Tryd.isAgg160
  z57 := Tryd.sizeOf160
  v57 := Tryd.zeroValue160
  t63 := Tryd.underlying162
  a63 := Tryd.isAgg162
  z63 := Tryd.sizeOf162
  v63 := Tryd.zeroValue162
  t64 := Tryd.underlying163
  a64 := Tryd.isAgg163
  z64 := Tryd.sizeOf163
  v64 := Tryd.zeroValue163 }
/-- slices.Sort's two contracts, at the fence that asks nothing -/
theorem sortsA (m : Nat) : AnyZI.SortsIn Tryd.prog sortedA_ren Fence.wide m :=
  ⟨fun blk off cap ss W hH hblk hsz => callsIn_wide.2 (AnyM.slices_Sort_int sortA blk off cap ss W hH hblk hsz),
   fun p cap W => callsIn_wide.2 (AnyM.slices_Sort_int_none sortA p cap W)⟩
theorem keys_call (mb : Option Nat) (w : World) : Calls Tryd.prog 50 #[.map mb] w (fun e w' => e = .returned (.func (.func 64) #[] #[.pointer (some ⟨w.heap.size, 0, none⟩)]) ∧ w' = w.alloc (.cells #[.map mb] 111)) :=
  (callsIn_wide (n := 6)).1 (AnyZI.keys_in keysA Fence.wide 6 trivial rfl mb w)
theorem intKeys_mem {B mb : Nat} {w : World} {c : List Cached} {D : DataW Value} {f : Int → Value} (h : VMap B mb w c D f) {s : Int} (hs : s ∈ intKeys D) : ∃ x ∈ c, x.at_ = s := by
  obtain ⟨es, rfl, _, hk⟩ := h.own.entries kInt
  obtain ⟨p, hp, rfl⟩ := List.mem_map.1 (show s ∈ es.map fun p => Go.intOf p.1 from hs)
  have hh : Maps.has (.map es) p.1 = true := by
    rw [Maps.has_eq, List.any_eq_true]
    exact ⟨p, hp, WideAt.sameKey_self (hk p hp)⟩
  obtain ⟨x, hx, e⟩ := h.keys p.1 hh
  exact ⟨x, hx, by rw [e]; rfl⟩
theorem flat_ints : ∀ xs : List Int, (xs.map fun x : Int => [Value.int .i64 x]).flatten = xs.map encZ
  | [] => rfl
  | x :: xs => by rw [List.map_cons, List.flatten_cons, List.map_cons, flat_ints xs]; rfl
theorem own_ints {base : Nat} {w : World} {v : Value} {n : Nat} {xs : List Int} (hn : xs.length = n) (h : w.ownsRow base 3 1 v n (xs.map encZ)) : Own base 3 w v xs := by
  subst hn
  have e := flat_ints xs
  exact ⟨xs.map fun x => [Value.int .i64 x], by simp, fun i x cs hx hc => by
    rw [List.getElem?_map, hx] at hc
    injection hc with hc
    exact hc.symm, by rw [e]; exact h⟩
/-- slices.Sorted at the iterator that maps.Keys has handed back -/
theorem sorted_call {B mb bm : Nat} {w : World} {c : List Cached} {D : DataW Value} {f : Int → Value} (h : VMap B mb w c D f) (hbm : bm < w.heap.size) (hc : w.cell? ⟨bm, 0, none⟩ = some (.map (some mb))) (hlen : c.length ≤ 1000000) :
    Calls Tryd.prog 49 #[.func (.func 64) #[] #[.pointer (some ⟨bm, 0, none⟩)]] w
      (fun e w' => ∃ (v : Value) (ss : List Int), e = .returned v ∧ Own w.heap.size 3 w' v ss ∧ (∀ s ∈ ss, ∃ x ∈ c, x.at_ = s) ∧ Below w.heap.size w w') := by
  have hseq : SeqGives Fence.wide 3 Tryd.prog 64 #[.pointer (some ⟨bm, 0, none⟩)] encZ (fun ss => ss.Perm (intKeys D)) (Maps.size D) w :=
    AnyZI.keys_gives (ρ := keysA_ren) { keysA with } Fence.wide _ trivial rfl (by omega) bm mb c.length D w hbm hc h.own
  have hsz : Maps.size D ≤ c.length := by
    obtain ⟨es, clock, hb, F, hs, rfl⟩ := h.own
    rw [Maps.size_eq, length_read]; exact hs
  have cS := AnyZI.sorted_in sortedA Fence.wide 6 trivial trivial trivial trivial rfl (by omega) (sortsA _) (enters_of Tryd.func63 (by kernel_rfl) rfl) 64 #[.pointer (some ⟨bm, 0, none⟩)] trivial (enters_of Tryd.func64 (by kernel_rfl) rfl) _ (Maps.size D) (by simp [maxLen]; omega) (by omega) w hseq
  refine ((callsIn_wide (n := 6)).1 cS).mono ?_
  rintro e w' ⟨v, ss, rfl, hp, hrow, hnil, hb⟩
  refine ⟨v, ss.mergeSort (fun x y => decide (x ≤ y)), rfl, ?_, ?_, hb⟩
  · exact own_ints (List.length_mergeSort _) hrow
  · intro s hs
    exact intKeys_mem h (hp.mem_iff.1 (List.mem_mergeSort.1 hs))
end Go.Proofs.YtnddgpkljpjjbaaDoor
