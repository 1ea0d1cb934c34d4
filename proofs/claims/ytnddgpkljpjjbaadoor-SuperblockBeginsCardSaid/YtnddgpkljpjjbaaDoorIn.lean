/- Laws of the fenced walk that speak of the elements. -/
import Derived.Test.YtnddgpkljpjjbaaDoorChunk
namespace Go.Proofs.YtnddgpkljpjjbaaDoor
open Go.RowKit Go.Shelf
set_option linter.unusedVariables false
set_option linter.unusedSimpArgs false
theorem wpListIn_make_Own {α : Type} [PlainRep α] {F : Fence} {m : Nat} {P : Program} {w : World} {ops : Array Oper} {rest : List Oper} {o : Oper} {a : Act} {Q : Exit → Act → World → Prop}
    (hg : o.guard = none) (l c : Operand) (t e : TypeId) (hop : o.op = Op.makeSlice t l c) (bytes : Nat) (x0 : α) (hE : Elem0 P t e bytes x0)
    (base : Nat) (kl kc : IntKind) (L C : Int) (n : Nat) (hl : a.eval l = .int kl L) (hc : a.eval c = .int kc C) (hL : L = (n : Int)) (hC : C = (n : Int)) (b2 : bytes * n ≤ 281474976710656) (b3 : n ≤ 9223372036854775807) (b4 : base ≤ w.heap.size)
    (hK : ∀ w', Own base e w' (.slice (some ⟨w.heap.size, 0, none⟩) n n) (List.replicate n x0) → w.grownBy w' none → wpListIn F m P ops Q rest (a.put o.dst (.slice (some ⟨w.heap.size, 0, none⟩) n n)) w') :
    wpListIn F m P ops Q (o :: rest) a w := by
  obtain ⟨ht, i, z, hi, hz, hsz, hby, hzs, hx⟩ := hE.ex
  refine wpListIn_plain hg fun K hK' => ?_
  obtain ⟨w', hrun, r1, r2⟩ := run_make_full (P := P) w base t e i z (Rep.size α) ht hi hz hsz kl kc n (by rw [hby]; exact b2) (by simpa [maxLen] using b3) b4
  subst hL
  subst hC
  unfold Oper.wpIn
  refine ⟨?_, ?_⟩
  · simp [Oper.about, hop]
  · rw [Oper.semAt_plain F _ _ (by rw [hop]; intro c hc'; cases hc')]
    simp [execOp, hop, hl, hc, hrun, Result.andThen]
    refine hK' _ _ (hK w' ⟨List.replicate n z.cells.toList, by simp, ?_, ?_⟩ r2)
    · intro j x cs h1 h2
      rw [List.getElem?_replicate] at h1 h2
      split at h1
      · rename_i hj
        rw [if_pos hj] at h2
        injection h1 with h1; injection h2 with h2
        subst h1; subst h2
        exact hx w'
      · cases h1
    · rw [← madeCells_flat _ _ _ hzs Rep.pos]
      simpa using r1
theorem wpListIn_append_Own {α : Type} [PlainRep α] {F : Fence} {m : Nat} {P : Program} {w : World} {ops : Array Oper} {rest : List Oper} {o : Oper} {a : Act} {Q : Exit → Act → World → Prop} (hgd : o.guard = none) (s x : Operand) (t e : TypeId)
    (ho : o.op = .call { callee := .builtin .append, args := #[s, x], argTypes := #[t, t] }) (bytes : Nat) (hE : Elem P t e (Rep.size α) bytes)
    (base : Nat) (v vy : Value) (xs ys : List α) (hs : a.eval s = v) (hown : Own base e w v xs) (hx : a.eval x = vy) (hy : SlRep w vy ys) (hne : ys ≠ [])
    (h63 : xs.length + ys.length ≤ 9223372036854775807) (hbytes : (xs.length + ys.length) * bytes ≤ 140737488355328) (hbase : base ≤ w.heap.size)
    (h : ∀ v' w', Own base e w' v' (xs ++ ys) → w.grownBy w' v.ownBlock → wpListIn F m P ops Q rest (a.put o.dst v') w') : wpListIn F m P ops Q (o :: rest) a w := by
  obtain ⟨ht, i, z, hi, hz, hsz, hby, hzs⟩ := hE.ex
  obtain ⟨css, h0, h1, hor⟩ := hown.ex
  obtain ⟨ad, c, rfl, hsl, hlc, hc63, hnil⟩ := hy.ex
  obtain ⟨b, o', dss, he, g0, g1, hrow⟩ := hy.row hne
  subst he
  have hl : dss.flatten.length = ys.length * Rep.size α := by rw [flatten_length (Own.lens g0 g1), g0]
  refine wpListIn_append_own _ hgd s x t ho base e i z (Rep.size α) bytes ht hi hz hsz hby hzs Rep.pos v xs.length css.flatten hs hor ⟨b, o', none⟩ ys.length c dss.flatten hx hl ?_ ?_ (by simpa [maxLen] using h63) hbytes hbase ?_
  · intro j u hu
    rw [Addr.add_lit]; exact hrow j u hu
  · intro u hu
    obtain ⟨cs, hcs, hu⟩ := List.mem_flatten.1 hu
    obtain ⟨k, hk⟩ := List.getElem?_of_mem hcs
    have hlt := (List.getElem?_eq_some_iff.1 hk).1
    exact Rep.one (g1 k (ys[k]'(by omega)) cs (List.getElem?_eq_getElem (by omega)) hk) u hu
  · intro v' w' h2 h3 h4
    exact h v' w' (Own.app h0 (fun i x cs hx hc => PlainRep.free (h1 i x cs hx hc)) g0 (fun i x cs hx hc => PlainRep.free (g1 i x cs hx hc)) h2) h3
/-- a byte's cell -/
def c8 (x : UInt8) : Value := .int .u8 x.toNat
theorem flatten_u8 : ∀ (css : List (List Value)) (xs : List UInt8), css.length = xs.length → (∀ (i : Nat) (x : UInt8) (cs : List Value), xs[i]? = some x → css[i]? = some cs → cs = [c8 x]) → css.flatten = xs.map c8
  | [], [], _, _ => rfl
  | c :: css, x :: xs, h, hh => by
    have := hh 0 x c rfl rfl
    subst this
    have ih := flatten_u8 css xs (by simpa using h) (fun i y cs h1 h2 => hh (i + 1) y cs (by simpa using h1) (by simpa using h2))
    simp [ih]
  | [], _ :: _, h, _ => by simp at h
  | _ :: _, [], h, _ => by simp at h
theorem own_u8 {base e : Nat} {w : World} {v : Value} {xs : List UInt8} : Own base e w v xs ↔ w.ownsRow base e 1 v xs.length (xs.map c8) := by
  constructor
  · rintro ⟨css, h0, h1, ho⟩
    rw [flatten_u8 css xs h0 h1] at ho
    exact ho
  · intro ho
    refine ⟨xs.map fun x => [c8 x], by simp, ?_, ?_⟩
    · intro i x cs h1 h2
      rw [List.getElem?_map, h1] at h2
      injection h2 with h2
      exact h2.symm
    · have : (xs.map fun x => [c8 x]).flatten = xs.map c8 := flatten_u8 _ _ (by simp) (by
        intro i x cs h1 h2
        rw [List.getElem?_map, h1] at h2
        injection h2 with h2
        exact h2.symm)
      rw [this]; exact ho
theorem wpListIn_copy_cells {F : Fence} {m : Nat} {P : Program} {w : World} {ops : Array Oper} {rest : List Oper} {o : Oper} {a : Act} {Q : Exit → Act → World → Prop} (hgd : o.guard = none) (d s : Operand) (dT sT : TypeId)
    (ho : o.op = .call { callee := .builtin .copy, args := #[d, s], argTypes := #[dT, sT] }) (elem : TypeId) (hu : P.underlying dT = some (.slice elem)) (hsz : (P.info? elem).map (·.size) = some 1)
    (g off dLen dCap : Nat) (ad : Addr) (sLen sCap : Nat) (hd : a.eval d = .slice (some ⟨g, off, none⟩) dLen dCap) (hs : a.eval s = .slice (some ad) sLen sCap)
    (cur : Array Value) (t : TypeId) (hg : w.heap[g]? = some (.cells cur t (0, 0))) (cs : List Value) (hn : cs.length = Nat.min sLen dLen)
    (hsrc : ∀ j v, cs[j]? = some v → w.cell? (ad.add j) = some v) (hfit : off + cs.length ≤ cur.size) (h1 : ∀ v ∈ cs, v.oneCell' = true)
    (h : ∀ w', w'.heap[g]? = some (.cells (cur.toList.take off ++ (cs ++ cur.toList.drop (off + cs.length))).toArray t (0, 0)) → w.grownBy w' (some g) → wpListIn F m P ops Q rest (a.put o.dst (goInt cs.length)) w') : wpListIn F m P ops Q (o :: rest) a w := by
  refine wpListIn_plain hgd fun K hK => ?_
  have hrun := run_copy_row (P := P) w dT sT o.type elem g off dLen dCap ad sLen sCap cur t cs hu hsz hg hn hsrc hfit h1
  unfold Oper.wpIn
  refine ⟨?_, ?_⟩
  · simp [Oper.about, ho, resolve, Target.leads, Sem.run_pure]
  · rw [Oper.semAt_plain F _ _ (by rw [ho]; intro c hc'; cases hc')]
    simp [execOp, ho, resolve, invoke, builtin, hd, hs, hrun, Result.andThen]
    exact hK _ _ (h _ (by simpa using setRow_heap w g cur _ t _ hg) (grown_setRow w g _))
theorem wpListIn_copy_zero {F : Fence} {m : Nat} {P : Program} {w : World} {ops : Array Oper} {rest : List Oper} {o : Oper} {a : Act} {Q : Exit → Act → World → Prop} (hgd : o.guard = none) (d s : Operand) (dT sT : TypeId)
    (ho : o.op = .call { callee := .builtin .copy, args := #[d, s], argTypes := #[dT, sT] }) (elem : TypeId) (hu : P.underlying dT = some (.slice elem)) (hsz : (P.info? elem).map (·.size) = some 1)
    (dp sp : Option Addr) (dLen dCap sLen sCap : Nat) (hd : a.eval d = .slice dp dLen dCap) (hs : a.eval s = .slice sp sLen sCap) (hn : Nat.min sLen dLen = 0)
    (h : wpListIn F m P ops Q rest (a.put o.dst (goInt 0)) w) : wpListIn F m P ops Q (o :: rest) a w := by
  refine wpListIn_plain hgd fun K hK => ?_
  have hrun := run_copy_none (P := P) w dT sT o.type elem dp sp dLen dCap sLen sCap hu hsz hn
  unfold Oper.wpIn
  refine ⟨?_, ?_⟩
  · simp [Oper.about, ho, resolve, Target.leads, Sem.run_pure]
  · rw [Oper.semAt_plain F _ _ (by rw [ho]; intro c hc'; cases hc')]
    simp [execOp, ho, resolve, invoke, builtin, hd, hs, hrun, Result.andThen]
    exact hK _ _ h
theorem goInt_nat (n : Nat) : goInt n = .int .i64 n := rfl
theorem splice_row {β : Type} (L R Y : List β) (off : Nat) (h : off + Y.length ≤ L.length) : (((L ++ R).take off) ++ (Y ++ (L ++ R).drop (off + Y.length))).take L.length = L.take off ++ (Y ++ L.drop (off + Y.length)) := by
  have t1 : (L ++ R).take off = L.take off := List.take_append_of_le_length (by omega)
  have t2 : (L ++ R).drop (off + Y.length) = L.drop (off + Y.length) ++ R := List.drop_append_of_le_length h
  rw [t1, t2]
  have e : L.take off ++ (Y ++ (L.drop (off + Y.length) ++ R)) = (L.take off ++ (Y ++ L.drop (off + Y.length))) ++ R := by simp
  rw [e, List.take_left' (by simp; omega)]
/-- copy(row[off:], ys) where all of ys fits. -/
theorem wpListIn_copy_Own {F : Fence} {m : Nat} {P : Program} {w : World} {ops : Array Oper} {rest : List Oper} {o : Oper} {a : Act} {Q : Exit → Act → World → Prop} (hgd : o.guard = none) (d s : Operand) (dT sT : TypeId)
    (ho : o.op = .call { callee := .builtin .copy, args := #[d, s], argTypes := #[dT, sT] }) (elem : TypeId) (hu : P.underlying dT = some (.slice elem)) (hsz : (P.info? elem).map (·.size) = some 1)
    (base e g off dLen dCap n cap : Nat) (xs ys : List UInt8) (vy : Value) (hown : Own base e w (.slice (some ⟨g, 0, none⟩) n cap) xs) (hd : a.eval d = .slice (some ⟨g, off, none⟩) dLen dCap) (hs : a.eval s = vy) (hy : SlRep w vy ys)
    (hle : ys.length ≤ dLen) (hfit : off + ys.length ≤ xs.length)
    (h : ∀ w', Own base e w' (.slice (some ⟨g, 0, none⟩) n cap) (xs.take off ++ (ys ++ xs.drop (off + ys.length))) → w.grownBy w' (some g) → wpListIn F m P ops Q rest (a.put o.dst (.int .i64 ys.length)) w') : wpListIn F m P ops Q (o :: rest) a w := by
  obtain ⟨ad, c, rfl, hsl, hlc, hc63, hnil⟩ := hy.ex
  by_cases hne : ys = []
  · subst hne
    refine wpListIn_copy_zero hgd d s dT sT ho elem hu hsz _ _ _ _ _ _ hd hs (by simp) ?_
    refine h w ?_ (World.grownBy.refl _ _)
    simpa using hown
  · obtain ⟨b, o', hb, hr⟩ := hsl hne
    subst hb
    rw [own_u8] at hown
    rcases hown.2 with ⟨hv, _⟩ | ⟨g', cap', cur, hv, hb, hg, hn, hm, hsz', ht⟩
    · cases hv
    injection hv with e1 e2 e3
    injection e1 with e1
    injection e1 with e1 _
    subst e1; subst e2; subst e3
    have hcl : xs.length ≤ cur.size := by omega
    have hsrc : ∀ j v, (ys.map c8)[j]? = some v → w.cell? ((⟨b, o', none⟩ : Addr).add j) = some v := by
      intro j v hj
      rw [List.getElem?_map] at hj
      cases hyj : ys[j]? with
      | none => rw [hyj] at hj; cases hj
      | some y =>
        rw [hyj] at hj; injection hj with hj; subst hj
        rw [Addr.add_lit]
        exact SlAt.u8' (xs := ys) (fun _ => ⟨b, o', rfl, hr⟩) hyj
    refine wpListIn_copy_cells hgd d s dT sT ho elem hu hsz g off dLen dCap ⟨b, o', none⟩ _ c hd hs cur e hg (ys.map c8) (by simp [Nat.min_def]; omega) hsrc (by simp; omega) (by intro v hv; obtain ⟨y, _, rfl⟩ := List.mem_map.1 hv; rfl) ?_
    intro w' hg' hgr
    rw [goInt_nat]
    simp only [List.length_map] at hg' ⊢
    refine h w' ?_ hgr
    rw [own_u8]
    have hlen : (xs.take off ++ (ys ++ xs.drop (off + ys.length))).length = xs.length := by simp; omega
    rw [hlen]
    refine ⟨by simp; omega, .inr ⟨g, cap, _, rfl, hb, hg', hn, hm, by simp; omega, ?_⟩⟩
    obtain ⟨R, hR⟩ : ∃ R, cur.toList = xs.map c8 ++ R := ⟨cur.toList.drop (xs.length * 1), by rw [← ht]; simp⟩
    rw [hR]
    have hh := splice_row (xs.map c8) R (ys.map c8) off (by simp; omega)
    simp only [List.length_map] at hh
    simp only [Nat.mul_one, List.map_append, List.map_take, List.map_drop] at hlen ⊢
    rw [← hh]
theorem wpListIn_store_byte {F : Fence} {m : Nat} {P : Program} {w : World} {ops : Array Oper} {rest : List Oper} {op : Oper} {a : Act} {Q : Exit → Act → World → Prop} (hgd : op.guard = none) (ty : TypeId) (x y : Operand)
    (ho : op.op = .store ty x y) (hi : (P.info? ty).map (·.size) = some 1) (base e g i n cap : Nat) (xs : List UInt8) (z : UInt8) (hown : Own base e w (.slice (some ⟨g, 0, none⟩) n cap) xs)
    (hx : a.eval x = .pointer (some ⟨g, i, none⟩)) (hy : a.eval y = c8 z) (hlt : i < xs.length)
    (h : ∀ w', Own base e w' (.slice (some ⟨g, 0, none⟩) n cap) (xs.set i z) → w.grownBy w' (some g) → wpListIn F m P ops Q rest (a.put op.dst undef) w') : wpListIn F m P ops Q (op :: rest) a w := by
  rw [own_u8] at hown
  rcases hown.2 with ⟨hv, _⟩ | ⟨g', cap', cur, hv, hb, hg, hn, hm, hsz', ht⟩
  · cases hv
  injection hv with e1 e2 e3
  injection e1 with e1
  injection e1 with e1 _
  subst e1; subst e2; subst e3
  have hcl : xs.length ≤ cur.size := by omega
  have hrun := run_storeVar_at (P := P) w g i ty e cur (c8 z) hg (by rw [hi]; rfl) (by show i + 1 ≤ _; omega) (fun u hu => by simp [c8, Value.cells] at hu; subst hu; rfl)
  refine wpListIn_plain hgd fun K hK => ?_
  unfold Oper.wpIn
  refine ⟨?_, ?_⟩
  · simp [Oper.about, ho]
  · rw [Oper.semAt_plain F _ _ (by rw [ho]; intro c hc'; cases hc')]
    unfold execOp
    simp only [ho, hx, hy, Instr.storeAt, Instr.sureAddr, Sem.run_bind, Sem.run_pure, Result.andThen_ok, hrun]
    refine hK _ _ (h _ ?_ (grown_setRow w g _))
    rw [own_u8]
    rw [List.length_set]
    refine ⟨by simp, .inr ⟨g, cap, _, rfl, hb, setRow_heap w g cur _ e _ hg, hn, hm, by simp [c8, Value.cells]; omega, ?_⟩⟩
    obtain ⟨R, hR⟩ : ∃ R, cur.toList = xs.map c8 ++ R := ⟨cur.toList.drop (xs.length * 1), by rw [← ht]; simp⟩
    have hh := splice_row (xs.map c8) R [c8 z] i (by simp; omega)
    rw [List.set_eq_take_append_cons_drop, if_pos hlt]
    simp only [hR]
    simp [c8, Value.cells] at hh ⊢
    exact hh
end Go.Proofs.YtnddgpkljpjjbaaDoor
