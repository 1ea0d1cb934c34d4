/- superblock.put. -/
import Derived.Test.YtnddgpkljpjjbaaDoorIn
namespace Go.Proofs.YtnddgpkljpjjbaaDoor
open Go.RowKit Go.Shelf
set_option linter.unusedVariables false
set_option linter.unusedSimpArgs false
attribute [local go_sem] Oper.semAt_some
theorem chunk_stops (F : Fence) (n : Nat) (h1 : F.fn 56) (hro : F.round = none) (hn : 1 ≤ n) (Bs Bn g : Nat) (w : World)
    (hBs : w.heap[Bs]? = some (.cells #[.slice (some ⟨g, 0, none⟩) 32 32] 22 (0, 0))) (hBn : w.heap[Bn]? = some (.cells #[.int .i64 4] 3 (0, 0))) :
    SeqStopsK F n Tryd.prog 56 #[.pointer (some ⟨Bs, 0, none⟩), .pointer (some ⟨Bn, 0, none⟩)] (fun x : Fin 8 => #[.slice (some ⟨g, 4 * x.1, none⟩) 4 4]) (KeepC Bs Bn) (fun ys => ys = List.finRange 8) (fun pre => ∃ k, k ≤ 8 ∧ pre = (List.finRange 8).take k) 8 w :=
  fun l J Jx W hW hJ _ hY h0 => chunk1_in F n h1 hro hn l Bs Bn g J Jx W hJ hY (keepB hW hBs) (keepB hW hBn) h0
set_option maxHeartbeats 1000000 in
theorem chunk_in (F : Fence) (n : Nat) (h1 : F.fn 40) (hro : F.round = none) (a : Option Addr) (m c : Nat) (w : World) :
    CallsIn F n Tryd.prog 40 #[.slice a m c, .int .i64 4] w fun e w' => e = .returned (.func (.func 56) #[] #[.pointer (some ⟨w.heap.size, 0, none⟩), .pointer (some ⟨w.heap.size + 1, 0, none⟩)]) ∧
      w' = (w.alloc (.cells #[.slice a m c] 22)).alloc (.cells #[.int .i64 4] 3) := by
  refine callsIn_of_wp Tryd.func40 rfl h1 ?_ hro
  simp only [Tryd.ntmps40, List.size_toArray, List.length_cons, List.length_nil, Nat.reduceAdd, Nat.reduceSub, Array.replicate_succ, Array.replicate_zero, List.push_toArray, List.append_toArray, List.nil_append, List.cons_append]
  gi_wp2
  go_ret
  exact ⟨rfl, rfl⟩
theorem cells_kept {W W' : World} {row : Option Nat} {k : Nat} {cs : Array Value} {t : TypeId} {fz : Nat × Nat} (h : W.heap[k]? = some (.cells cs t fz)) (hg : W.grownBy W' row) (hr : ∀ r, row = some r → ∃ o : Obj, W.heap[r]? = some o ∧ o.isCells = false) : W'.heap[k]? = some (.cells cs t fz) :=
  keepG hg h (fun e => by obtain ⟨o, ho, hc⟩ := hr k e.symm; rw [h] at ho; cases ho; cases hc)
theorem Own.turned {α : Type} [PlainRep α] {base : Nat} {e : TypeId} {w w' : World} {v : Value} {xs : List α} (h : Own base e w v xs) {row : Option Nat} (hg : w.grownBy w' row) (hr : ∀ r, row = some r → ∃ o : Obj, w.heap[r]? = some o ∧ o.isCells = false) : Own base e w' v xs := by
  obtain ⟨css, h0, h1, ho⟩ := h.ex
  refine h.grown hg ?_
  rcases ho.2 with ⟨rfl, _⟩ | ⟨g, cap, cur, rfl, _, hgb, _⟩
  · exact .inl rfl
  · refine .inr fun e' => ?_
    obtain ⟨o, ho, hc⟩ := hr g (by simpa [Value.ownBlock] using e'.symm)
    rw [hgb] at ho; cases ho; cases hc
structure PutI (w : World) (n : Nat) (pv : Value) (D : List UInt8) (rb B : Nat) (pre : List (Fin 8)) (W : World) : Prop where
  nb : W.heap[w.heap.size]? = some (.cells #[.int .i64 n] 3 (0, 0))
  res : W.heap[w.heap.size + 1]? = some (.cells #[.int .i64 0, .slice none 0 0, .slice none 0 0] 71 (0, 0))
  data : Own w.heap.size 5 W (.slice (some ⟨w.heap.size + 1 + 1, 0, none⟩) 32 32) D
  ex : ∃ v, W.heap[rb]? = some (.cells #[.int .i64 n, pv, v] 71 (0, 0)) ∧ Own B 57 W v (pre.map fun j => copySec n D j.1)
  below : Below w.heap.size w W
  size : B ≤ W.heap.size
theorem heap_alloc3_ {w : World} {o o' o'' : Obj} : (((w.alloc o).alloc o').alloc o'').heap[w.heap.size]? = some o ∧ (((w.alloc o).alloc o').alloc o'').heap[w.heap.size + 1]? = some o' ∧ (((w.alloc o).alloc o').alloc o'').heap[w.heap.size + 1 + 1]? = some o'' := by
  have h1 := heap_alloc_new w o
  have h2 := heap_alloc_new (w.alloc o) o'
  have h3 := heap_alloc_new ((w.alloc o).alloc o') o''
  simp only [World.size_alloc] at h2 h3
  exact ⟨keepB (below_alloc _ _) (keepB (below_alloc _ _) h1), keepB (below_alloc _ _) h2, h3⟩
theorem keepC_b {Bs Bn B : Nat} (h1 : Bs < B) (h2 : Bn < B) (W : World) (l : Nat) (o o' : Obj) (hl : B ≤ l) (_ : W.heap[l]? = some o) (_ : o.isCells = false) (_ : o.isWalk = false) : KeepC Bs Bn W (W.putObj l o') :=
  ⟨World.putObj_heap_other (by omega), World.putObj_heap_other (by omega)⟩
theorem putI_own {w : World} {n : Nat} {pv : Value} {D : List UInt8} {rb B B' : Nat} (hB : w.heap.size ≤ B') : OwnFrom B' (PutI w n pv D rb B) := by
  intro s W W' row h hg hr
  have hr' : ∀ r, row = some r → ∃ o : Obj, W.heap[r]? = some o ∧ o.isCells = false := fun r e => (hr r e).2
  obtain ⟨v, h1, h2⟩ := h.ex
  exact ⟨cells_kept h.nb hg hr', cells_kept h.res hg hr', h.data.turned hg hr', ⟨v, cells_kept h1 hg hr', h2.turned hg hr'⟩, h.below.grown hg h.below.size (fun k hk => by have := (hr k hk).1; omega), Nat.le_trans h.size hg.size⟩
theorem grown_setCell (W : World) (b i : Nat) (v : Value) : W.grownBy (W.setCell ⟨b, i, none⟩ v) (some b) :=
  ⟨rfl, rfl, rfl, by simp, fun k _ hk => heap_setCell_other W ⟨b, i, none⟩ k v (fun e => hk (by rw [e]))⟩
theorem heap_set0 {w : World} {g : Nat} {a b c v : Value} {t : TypeId} (h : w.heap[g]? = some (.cells #[a, b, c] t (0, 0))) : (w.setCell ⟨g, 0, none⟩ v).heap[g]? = some (.cells #[v, b, c] t (0, 0)) := by
  obtain ⟨hlt, hk⟩ := Array.getElem?_eq_some_iff.1 h
  show (w.heap.modify g _)[g]? = _
  rw [Array.getElem?_eq_getElem (by rw [Array.size_modify]; exact hlt), Array.getElem_modify_self, hk]
  rfl
theorem heap_set1 {w : World} {g : Nat} {a b c v : Value} {t : TypeId} (h : w.heap[g]? = some (.cells #[a, b, c] t (0, 0))) : (w.setCell ⟨g, 1, none⟩ v).heap[g]? = some (.cells #[a, v, c] t (0, 0)) := by
  obtain ⟨hlt, hk⟩ := Array.getElem?_eq_some_iff.1 h
  show (w.heap.modify g _)[g]? = _
  rw [Array.getElem?_eq_getElem (by rw [Array.size_modify]; exact hlt), Array.getElem_modify_self, hk]
  rfl
theorem heap_set2 {w : World} {g : Nat} {a b c v : Value} {t : TypeId} (h : w.heap[g]? = some (.cells #[a, b, c] t (0, 0))) : (w.setCell ⟨g, 2, none⟩ v).heap[g]? = some (.cells #[a, b, v] t (0, 0)) := by
  obtain ⟨hlt, hk⟩ := Array.getElem?_eq_some_iff.1 h
  show (w.heap.modify g _)[g]? = _
  rw [Array.getElem?_eq_getElem (by rw [Array.size_modify]; exact hlt), Array.getElem_modify_self, hk]
  rfl
theorem ne_block {g h n c : Nat} (hne : g ≠ h) : (Value.slice (some ⟨g, 0, none⟩) n c).ownBlock ≠ some h := fun e => hne (by injection e)
theorem Own.lt {α : Type} [Rep α] {base : Nat} {e : TypeId} {w : World} {v : Value} {xs : List α} (h : Own base e w v xs) : ∀ k, v.ownBlock = some k → k < w.heap.size := fun k hk => by
  obtain ⟨css, h0, h1, ho⟩ := h.ex
  exact (ho.lt k hk).2
theorem Own.not_block {α : Type} [Rep α] {base : Nat} {e : TypeId} {w : World} {v : Value} {xs : List α} (h : Own base e w v xs) {k : Nat} {o : Obj} (hk : w.heap[k]? = some o) (ho : o.isCells = false) : v.ownBlock ≠ some k := fun e' => by
  obtain ⟨css, h0, h1, hh⟩ := h.ex
  rcases hh.2 with ⟨rfl, _⟩ | ⟨g, cap, cur, rfl, _, hgb, _⟩
  · cases e'
  · obtain rfl : g = k := by simpa [Value.ownBlock] using e'
    rw [hk] at hgb; cases hgb; cases ho
theorem copyData_length (xs : List UInt8) (hx : xs.length ≤ 31) : (copyData xs).length = 32 := copyDataTo_length _ _ _ (Nat.le_refl _) hx
theorem copyData_copy (xs : List UInt8) (hx : xs.length ≤ 31) : ((List.replicate 32 (0 : UInt8)).set 0 (UInt8.ofNat xs.length)).take 1 ++ (xs ++ ((List.replicate 32 (0 : UInt8)).set 0 (UInt8.ofNat xs.length)).drop (1 + xs.length)) = copyData xs := by
  rw [List.replicate_succ (n := 31), List.set_cons_zero, Nat.add_comm 1, List.drop_succ_cons, List.drop_replicate]
  simp [copyData, copyDataTo]
set_option maxRecDepth 100000 in
set_option maxHeartbeats 4000000 in
theorem sup_put (n : Nat) (v : Value) (xs : List UInt8) (w : World) (hn : n < 4294967296) (hv : SlRep w v xs) (hx : xs.length ≤ 31) :
    Calls Tryd.prog 27 #[.int .i64 n, v] w (fun e w' => ∃ sv, e = .returned (.agg #[.int .i64 n, v, sv]) ∧ Own w.heap.size 57 w' sv (copySecs n xs) ∧ Below w.heap.size w w') := by
  obtain ⟨a, c, rfl, hs, hc1, hc2, _⟩ := hv.ex
  have hub : (UInt8.ofNat xs.length).toNat = xs.length := ofNat_lt (by omega)
  have HUB := Lib.hid hub; clear hub
  have hset : (List.replicate 32 (0 : UInt8)).set 0 (UInt8.ofNat xs.length) = copyDataTo xs.length xs 0 := by simp [copyDataTo, List.replicate_succ]
  have HSET := Lib.hid hset; clear hset
  refine (callsIn_wide (n := 3)).1 ?_
  refine callsIn_of_wp_marks Tryd.func27 rfl trivial ?_ rfl
  simp only [Tryd.ntmps27, List.size_toArray, List.length_cons, List.length_nil, Nat.reduceAdd, Nat.reduceSub, Array.replicate_succ, Array.replicate_zero, List.push_toArray, List.append_toArray, List.nil_append, List.cons_append]
  gi_wp2_with (first
    | (gi_at_make; refine wpListIn_make_Own (α := UInt8) rfl (.const (.int .i64 32)) (.const (.int .i64 32)) 22 5 rfl 1 0 el0Byte w.heap.size .i64 .i64 32 32 32 rfl rfl rfl rfl (by omega) (by omega) (by simp; omega) ?_; intro w1 ho1 hg1; simp only [World.size_alloc] at ho1; have k0 := keepG hg1 (heap_alloc2_old w _ _) (by simp); have k1 := keepG hg1 (heap_alloc2_new w _ _) (by simp); have hB1 : Below w.heap.size w w1 := (below_alloc2 w _ _).grown hg1 (by simp; omega) (by intro k hk; cases hk))
    | ((with_reducible show wpListIn _ _ _ _ _ (⟨none, .store 5 (.tmp 15) (.tmp 14), _, _, _, _⟩ :: _) _ _); go_must (refine wpListIn_store_byte rfl 5 (.tmp 15) (.tmp 14) rfl szByte w.heap.size 5 (w.heap.size + 1 + 1) 0 32 32 _ (UInt8.ofNat xs.length) ho1 rfl (by simp [c8, HUB.out, go_sem]) (by simp) ?_); intro w2 ho2 hg2; have k0 := keepG hg2 k0 (by simp; omega); have k1 := keepG hg2 k1 (by simp); have hB2 : Below w.heap.size w w2 := hB1.grown hg2 hB1.size (by intro k hk; cases hk; omega))
    | ((with_reducible show wpListIn _ _ _ _ _ (⟨_, .call { callee := .builtin .copy, args := #[.tmp 17, .tmp 18], argTypes := _ }, _, _, _, _⟩ :: _) _ _); go_must (refine wpListIn_copy_Own rfl (.tmp 17) (.tmp 18) 22 22 rfl 5 Tryd.underlying22 szByte w.heap.size 5 (w.heap.size + 1 + 1) 1 31 31 32 32 _ xs _ ho2 rfl rfl (hv.below hB2) (by simpa using hx) (by simp; omega) ?_); intro w3 ho3 hg3; have k0 := keepG hg3 k0 (by simp; omega); have k1 := keepG hg3 k1 (by simp); have hB3 : Below w.heap.size w w3 := hB2.grown hg3 hB2.size (by intro k hk; cases hk; omega); rw [copyData_copy xs hx] at ho3; have ec0 := cell_of_row w3 _ 0 _ _ _ k0; have ef0 := frozen_of_row w3 _ 0 _ _ k0; simp at ec0; have HO3 := Lib.hid ho3; have HK0 := Lib.hid k0; have HK1 := Lib.hid k1; clear ho1 ho2 ho3 k0 k1)
    | (refine ⟨trivial, ?_⟩; gi_at_call 40; refine (chunk_in _ _ trivial rfl _ _ _ _).mono ?_; rintro e w4 ⟨rfl, rfl⟩))
  have hs3 := hB3.size
  have hz3 : w.heap.size + 1 < w3.heap.size := (Array.getElem?_eq_some_iff.1 HK1.out).1
  have hd3 : w.heap.size + 1 + 1 < w3.heap.size := (by obtain ⟨g', cap', e, h1, h2, _⟩ := HO3.out.shape (by rw [copyData_length xs hx]; omega); injection e with e; injection e with e; injection e with e; omega)
  have hbox := heap_alloc3_ (w := w3) (o := .cells #[.int .i64 n, .slice a xs.length c, .slice none 0 0] 71) (o' := .cells #[.slice (some ⟨w.heap.size + 1 + 1, 0, none⟩) 32 32] 22) (o'' := .cells #[.int .i64 4] 3)
  refine wpIn_rangeFunc_ownG rfl (by omega) (gf := 56) (lb := #[.pointer (some ⟨w3.heap.size + 1, 0, none⟩), .pointer (some ⟨w3.heap.size + 1 + 1, 0, none⟩)]) rfl trivial (enters_of Tryd.func56 (by kernel_rfl) rfl)
    (chunk_stops Fence.wide _ trivial rfl (by omega) (w3.heap.size + 1) (w3.heap.size + 1 + 1) (w.heap.size + 1 + 1) _ hbox.2.1 hbox.2.2) KeepC.trans (keepC_b (by simp) (by simp)) (Below.refl _ _) (fun _ => rfl)
    (PutI w n (.slice a xs.length c) (copyData xs) w3.heap.size (w3.heap.size + 1 + 1 + 1))
    (fun _ _ _ => False)
    (putI_own (by simp; omega))
    (fun _ _ _ _ _ hs _ _ => hs)
    ?start
    (fun x => { tmps := #[.int .i64 n, .slice a xs.length c, .pointer (some ⟨w.heap.size, 0, none⟩), undef, .pointer (some ⟨w.heap.size + 1, 0, none⟩), .slice (some ⟨w.heap.size + 1 + 1, 0, none⟩) 32 32, .pointer (some ⟨w3.heap.size, 0, none⟩), .slice (some ⟨w.heap.size + 1 + 1, 4 * x.1, none⟩) 4 4, undef, undef,
      .slice (some ⟨w.heap.size + 1 + 1, 0, none⟩) 32 32, .slice (some ⟨w.heap.size + 1 + 1, 0, none⟩) 32 32, .slice a xs.length c, .int .i64 xs.length, .int .u8 xs.length, .pointer (some ⟨w.heap.size + 1 + 1, 0, none⟩), .slice (some ⟨w.heap.size + 1 + 1, 0, none⟩) 32 32, .slice (some ⟨w.heap.size + 1 + 1, 1, none⟩) 31 31, .slice a xs.length c, .int .i64 xs.length,
      .int .i64 n, .slice a xs.length c, .agg #[.int .i64 n, .slice a xs.length c], .agg #[.int .i64 n, .slice a xs.length c, .slice none 0 0], .slice (some ⟨w.heap.size + 1 + 1, 0, none⟩) 32 32, .func (.func 56) #[] #[.pointer (some ⟨w3.heap.size + 1, 0, none⟩), .pointer (some ⟨w3.heap.size + 1 + 1, 0, none⟩)],
      .slice (some ⟨w.heap.size + 1 + 1, 4 * x.1, none⟩) 4 4, undef, undef, undef, undef, undef, undef, undef, undef, undef, undef, undef, undef, undef, undef, undef, undef, undef, undef, undef, undef, undef], defers := [] }) ?assign ?body ?done ?stop
  case start =>
    have hba := below_alloc3 w3 (.cells #[.int .i64 n, .slice a xs.length c, .slice none 0 0] 71) (.cells #[.slice (some ⟨w.heap.size + 1 + 1, 0, none⟩) 32 32] 22) (.cells #[.int .i64 4] 3)
    exact ⟨keepB hba HK0.out, keepB hba HK1.out, HO3.out.below hba, ⟨_, hbox.1, Own.nil _ _ _⟩, below_step hB3 hba, by simp⟩
  case assign =>
    intro l x W K hK
    gi_wp2
    exact hK
  case body =>
    rintro l pre x W ⟨i0, i1, i2, ⟨sv, i3, i4⟩, i5, i6⟩ hlt
    obtain ⟨x, hx8⟩ := x
    have t1 : 4 * x + 4 ≤ 32 := by omega
    obtain ⟨t, ht⟩ : ∃ t, t = 4 * x := ⟨_, rfl⟩
    dsimp only
    rw [← ht] at t1 ⊢
    have HT := Lib.hid ht; clear ht
    have ac0 := cell_of_row W _ 0 _ _ _ i0
    have af0 := frozen_of_row W _ 0 _ _ i0
    simp at ac0
    have rc0 := cell_of_row W _ 0 _ _ _ i3
    have rc1 := cell_of_row W _ 1 _ _ _ i3
    have rc2 := cell_of_row W _ 2 _ _ _ i3
    have rf0 := frozen_of_row W _ 0 _ _ i3
    have rf1 := frozen_of_row W _ 1 _ _ i3
    have rf2 := frozen_of_row W _ 2 _ _ i3
    simp at rc0 rc1 rc2
    have hz : w3.heap.size < W.heap.size := by omega
    have hz0 : w.heap.size < W.heap.size := by omega
    have HD := Lib.hid (copyData_length xs hx)
    have hsq := i2.slat
    obtain ⟨x0, hx0⟩ : ∃ x, (copyData xs)[t]? = some x := ⟨_, List.getElem?_eq_getElem (by rw [HD.out]; omega)⟩
    obtain ⟨x1, hx1⟩ : ∃ x, (copyData xs)[t + 1]? = some x := ⟨_, List.getElem?_eq_getElem (by rw [HD.out]; omega)⟩
    obtain ⟨x2, hx2⟩ : ∃ x, (copyData xs)[t + 2]? = some x := ⟨_, List.getElem?_eq_getElem (by rw [HD.out]; omega)⟩
    obtain ⟨x3, hx3⟩ : ∃ x, (copyData xs)[t + 3]? = some x := ⟨_, List.getElem?_eq_getElem (by rw [HD.out]; omega)⟩
    have c0 := hsq.u8' hx0; have c1 := hsq.u8' hx1; have c2 := hsq.u8' hx2; have c3 := hsq.u8' hx3
    simp only [Nat.zero_add] at c0 c1 c2 c3
    have hsec : copySec n (copyData xs) x = mkSec n x0 x1 x2 x3 := by
      rw [HT.out] at hx0 hx1 hx2 hx3
      simp [copySec, List.getD_eq_getElem?_getD, hx0, hx1, hx2, hx3]
    have HS := Lib.hid hsec; clear hsec hx0 hx1 hx2 hx3
    have Hi0 := Lib.hid i0; have Hi1 := Lib.hid i1; have Hi2 := Lib.hid i2; have Hi3 := Lib.hid i3; have Hi4 := Lib.hid i4; clear i0 i1 i2 i3 i4
    have HC : Hid (∀ (W' : World), Below W.heap.size W W' → ∀ j v, [c8 x0, c8 x1, c8 x2, c8 x3][j]? = some v → W'.cell? ((⟨w.heap.size + 1 + 1, t, none⟩ : Addr).add j) = some v) := by
      refine Lib.hid fun W' hW' j v hj => ?_
      rw [Addr.add_lit]
      match j, hj with
      | 0, hj => cases hj; exact keep hW' c0
      | 1, hj => cases hj; exact keep hW' c1
      | 2, hj => cases hj; exact keep hW' c2
      | 3, hj => cases hj; exact keep hW' c3
      | j + 4, hj => simp at hj
    clear c0 c1 c2 c3
    gi_wp2
    refine wpIn_loop_rounds 5 ?_
    rw [roundsIn_succ]; gi_wp2
    rw [roundsIn_succ]; gi_wp2
    rw [roundsIn_succ]; gi_wp2
    rw [roundsIn_succ]; gi_wp2
    rw [roundsIn_succ]
    gi_wp2_with (first
      | ((with_reducible show wpListIn _ _ _ _ _ (⟨_, .call { callee := .builtin .copy, args := #[.tmp 38, .tmp 39], argTypes := _ }, _, _, _, _⟩ :: _) _ _); go_must (refine wpListIn_copy_cells rfl (.tmp 38) (.tmp 39) 22 22 rfl 5 Tryd.underlying22 szByte W.heap.size 4 4 4 ⟨w.heap.size + 1 + 1, t, none⟩ 4 4 rfl rfl _ _ (heap_alloc_new W _) [c8 x0, c8 x1, c8 x2, c8 x3] rfl (HC.out _ (below_alloc _ _)) (by simp) (by intro v hv; simp at hv; rcases hv with rfl | rfl | rfl | rfl <;> rfl) ?_); intro w4 hgw hg4; simp [c8] at hgw; have sc0 := cell_of_row w4 _ 0 _ _ _ hgw; have sc1 := cell_of_row w4 _ 1 _ _ _ hgw; have sc2 := cell_of_row w4 _ 2 _ _ _ hgw; have sc3 := cell_of_row w4 _ 3 _ _ _ hgw; have sc4 := cell_of_row w4 _ 4 _ _ _ hgw; have sc5 := cell_of_row w4 _ 5 _ _ _ hgw; have sc6 := cell_of_row w4 _ 6 _ _ _ hgw; have sc7 := cell_of_row w4 _ 7 _ _ _ hgw; have sf0 := frozen_of_row w4 _ 0 _ _ hgw; have sf1 := frozen_of_row w4 _ 1 _ _ hgw; have sf2 := frozen_of_row w4 _ 2 _ _ hgw; have sf3 := frozen_of_row w4 _ 3 _ _ hgw; have sf4 := frozen_of_row w4 _ 4 _ _ hgw; have sf5 := frozen_of_row w4 _ 5 _ _ hgw; have sf6 := frozen_of_row w4 _ 6 _ _ hgw; have sf7 := frozen_of_row w4 _ 7 _ _ hgw; simp at sc0 sc1 sc2 sc3 sc4 sc5 sc6 sc7; have k3 := keepG hg4 (keepB (below_alloc W _) Hi3.out) (by simp; omega); have qc0 := cell_of_row w4 _ 0 _ _ _ k3; have qc1 := cell_of_row w4 _ 1 _ _ _ k3; have qc2 := cell_of_row w4 _ 2 _ _ _ k3; have qf0 := frozen_of_row w4 _ 0 _ _ k3; have qf1 := frozen_of_row w4 _ 1 _ _ k3; have qf2 := frozen_of_row w4 _ 2 _ _ k3; simp at qc0 qc1 qc2; have HK3 := Lib.hid k3; have HI4 := Lib.hid ((Hi4.out.below (below_alloc W _)).grown hg4 (.inr (fun e => by have := Hi4.out.lt _ e; omega))); clear k3 hgw)
      | ((with_reducible show wpListIn _ _ _ _ _ (⟨_, .call { callee := .builtin .append, args := #[.tmp 42, .tmp 44], argTypes := _ }, _, _, _, _⟩ :: _) _ _); go_must (refine wpListIn_append_Own (α := Sec) rfl (.tmp 42) (.tmp 44) 32 57 rfl 8 elSec (w3.heap.size + 1 + 1 + 1) _ _ _ [mkSec n x0 x1 x2 x3] rfl (HI4.out.below (below_alloc w4 _)) rfl (SlRep.single' (x := mkSec n x0 x1 x2 x3) (b := w4.heap.size) rfl (mkSec_is hn)) (by simp) (by simp; omega) (by simp; omega) (by have := hg4.size; simp at this ⊢; omega) ?_); intro v5 w5 ho5 hg5; obtain ⟨g5, cap5, rfl, _, _, _, _⟩ := ho5.shape (by simp); have k4 := keepG hg5 (keepB (below_alloc w4 _) HK3.out) (fun e => by have := HI4.out.base _ e.symm; omega); have pc0 := cell_of_row w5 _ 0 _ _ _ k4; have pc1 := cell_of_row w5 _ 1 _ _ _ k4; have pc2 := cell_of_row w5 _ 2 _ _ _ k4; have pf0 := frozen_of_row w5 _ 0 _ _ k4; have pf1 := frozen_of_row w5 _ 1 _ _ k4; have pf2 := frozen_of_row w5 _ 2 _ _ k4; simp at pc0 pc1 pc2))
    have z4 := hg4.size
    have z5 := hg5.size
    simp only [World.size_alloc] at z4 z5
    have el : (List.map (fun j : Fin 8 => copySec n (copyData xs) j.1) pre ++ [mkSec n x0 x1 x2 x3]).length = pre.length + 1 := by simp
    rw [el] at ho5
    have hstep : ∀ (V : Value) j, j < W.heap.size → j ≠ w3.heap.size → sv.ownBlock ≠ some j → (w5.setCell ⟨w3.heap.size, 2, none⟩ V).heap[j]? = W.heap[j]? := fun V j hj h1 h2 =>
      (block_set h1).trans ((hg5.block j (by simp; omega) (fun e => h2 e.symm)).trans (((below_alloc w4 _).block j (by omega)).trans ((hg4.block j (by simp; omega) (by simp; omega)).trans ((below_alloc W _).block j hj))))
    have hsvb : ∀ j, j < w3.heap.size + 1 + 1 + 1 → sv.ownBlock ≠ some j := fun j hj e => by have := Hi4.out.base _ e; omega
    refine ⟨⟨by simp; omega, fun k o hBk hk ho => (hstep _ k (Array.getElem?_eq_some_iff.1 hk).1 (by simp at hBk; omega) (Hi4.out.not_block hk ho)).trans hk⟩, ⟨hstep _ _ (by omega) (by omega) (hsvb _ (by omega)), hstep _ _ (by omega) (by omega) (hsvb _ (by omega))⟩,
      ⟨(hstep _ _ (by omega) (by omega) (hsvb _ (by omega))).trans Hi0.out, (hstep _ _ (by omega) (by omega) (hsvb _ (by omega))).trans Hi1.out, ?_, ⟨_, heap_set2 k4, ?_⟩, ?_, by simp; omega⟩⟩
    · have h1 := (Hi2.out.below (below_alloc W _)).grown hg4 (.inr (ne_block (by omega)))
      have h2 := (h1.below (below_alloc w4 _)).grown hg5 (.inr (fun e => hsvb (w.heap.size + 1 + 1) (by omega) e.symm))
      exact h2.grown (grown_setCell w5 w3.heap.size 2 _) (.inr (ne_block (by omega)))
    · have h1 := ho5.grown (grown_setCell w5 w3.heap.size 2 (.slice (some ⟨g5, 0, none⟩) (pre.length + 1) cap5)) (.inr (fun e => by have := ho5.base _ e; omega))
      rw [List.map_append, List.map_cons, List.map_nil, HS.out]
      exact h1
    · have h1 := (i5.alloc i5.size (.cells #[.int .u8 (↑n % 256), .int .u8 (↑n / 256 % 256), .int .u8 (↑n / 65536 % 256), .int .u8 (↑n / 16777216), .int .u8 0, .int .u8 0, .int .u8 0, .int .u8 0] 57)).grown hg4 (by simp; omega) (fun k hk => by cases hk; omega)
      have h2 := (h1.alloc h1.size (.cells #[.int .u8 (↑n % 256), .int .u8 (↑n / 256 % 256), .int .u8 (↑n / 65536 % 256), .int .u8 (↑n / 16777216), .int .u8 x0.toNat, .int .u8 x1.toNat, .int .u8 x2.toNat, .int .u8 x3.toNat] 57)).grown hg5 (by simp; omega) (fun k hk => by have := Hi4.out.base _ hk; omega)
      exact h2.setCell (p := ⟨w3.heap.size, 2, none⟩) (by omega) _
  case done =>
    rintro D ys W hD rfl ⟨i0, i1, i2, ⟨sv, i3, i4⟩, i5, i6⟩ hK
    have hl : (List.finRange 8).map (fun j => copySec n (copyData xs) j.1) = copySecs n xs := rfl
    rw [hl] at i4
    have h8 : (copySecs n xs).length = 8 := rfl
    obtain ⟨g, cap, rfl, hgb, _, _, _⟩ := i4.shape (by rw [h8]; omega)
    rw [h8] at i3 i4
    have ac0 := cell_of_row W _ 0 _ _ _ i1
    have ac1 := cell_of_row W _ 1 _ _ _ i1
    have ac2 := cell_of_row W _ 2 _ _ _ i1
    have af0 := frozen_of_row W _ 0 _ _ i1
    have af1 := frozen_of_row W _ 1 _ _ i1
    have af2 := frozen_of_row W _ 2 _ _ i1
    simp at ac0 ac1 ac2
    have rc0 := cell_of_row W _ 0 _ _ _ i3
    have rc1 := cell_of_row W _ 1 _ _ _ i3
    have rc2 := cell_of_row W _ 2 _ _ _ i3
    have rf0 := frozen_of_row W _ 0 _ _ i3
    have rf1 := frozen_of_row W _ 1 _ _ i3
    have rf2 := frozen_of_row W _ 2 _ _ i3
    simp at rc0 rc1 rc2
    gi_wp2
    have hK' : (((W.setCell ⟨w.heap.size + 1, 0, none⟩ (.int .i64 n)).setCell ⟨w.heap.size + 1, 1, none⟩ (.slice a xs.length c)).setCell ⟨w.heap.size + 1, 2, none⟩ (.slice (some ⟨g, 0, none⟩) 8 cap)).heap[D]? = _ := (block_set (by simp at hD; omega)).trans ((block_set (by simp at hD; omega)).trans ((block_set (by simp at hD; omega)).trans hK))
    refine ⟨by simp, .inl ⟨_, _, rfl, run_takeDeferred hK', ?_⟩⟩
    · have hk := heap_set2 (v := .slice (some ⟨g, 0, none⟩) 8 cap) (heap_set1 (v := .slice a xs.length c) (heap_set0 (v := .int .i64 n) i1))
      have hk2 := (World.putObj_heap_other (o := .deferred none) (r := D) (by simp at hD; omega)).trans hk
      have zc0 := cell_of_row _ _ 0 _ _ _ hk2
      have zc1 := cell_of_row _ _ 1 _ _ _ hk2
      have zc2 := cell_of_row _ _ 2 _ _ _ hk2
      have zf0 := frozen_of_row _ _ 0 _ _ hk2
      have zf1 := frozen_of_row _ _ 1 _ _ hk2
      have zf2 := frozen_of_row _ _ 2 _ _ hk2
      simp at zc0 zc1 zc2
      refine ⟨.agg #[.int .i64 n, .slice a xs.length c, .slice (some ⟨g, 0, none⟩) 8 cap], by simp [results, Tryd.results27, go_sem, zc0, zc1, zc2], _, rfl, ?_, ?_⟩
      · have hc := ((((i4.grown (grown_setCell W (w.heap.size + 1) 0 (.int .i64 n)) (.inr (ne_block ?_))).grown (grown_setCell _ (w.heap.size + 1) 1 (.slice a xs.length c)) (.inr (ne_block ?_))).grown (grown_setCell _ (w.heap.size + 1) 2 (.slice (some ⟨g, 0, none⟩) 8 cap)) (.inr (ne_block ?_))).turned (grownBy_putObj' _ D (.deferred none)) (by rintro r e; cases e; exact ⟨_, hK', rfl⟩))
        · exact hc.lower (by omega)
        all_goals omega
      · have h1 := ((i5.setCell (p := ⟨w.heap.size + 1, 0, none⟩) (by simp) (.int .i64 n)).setCell (p := ⟨w.heap.size + 1, 1, none⟩) (by simp) (.slice a xs.length c)).setCell (p := ⟨w.heap.size + 1, 2, none⟩) (by simp) (.slice (some ⟨g, 0, none⟩) 8 cap)
        exact h1.grown (grownBy_putObj' _ D (.deferred none)) h1.size (fun k hk => by cases hk; simp at hD; omega)
  case stop =>
    rintro D c pre W _ _ h _
    exact h.elim
end Go.Proofs.YtnddgpkljpjjbaaDoor
