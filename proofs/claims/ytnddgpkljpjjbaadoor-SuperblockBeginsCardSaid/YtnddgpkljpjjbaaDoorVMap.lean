/- A map from places to the versions of their sectors, that the call itself has made. -/
import Derived.Test.YtnddgpkljpjjbaaDoorExec3
import Derived.Maps.OwnOps
import Derived.Maps.OwnSet
import Derived.Maps.AppendAt
namespace Go.Proofs.YtnddgpkljpjjbaaDoor
open Go.RowKit Go.Maps
set_option linter.unusedVariables false
set_option linter.unusedSimpArgs false
/-- a slice as itself: how an element of the map is read -/
def heldSl (v : Value) : Option (DataW Value × List MemPlace) := match v with
  | .slice a n c => some (.held (.slice a n c), [])
  | _ => none
theorem heldSl_inv {v u : Value} {ps : List MemPlace} (h : heldSl v = some (.held u, ps)) : v = u := by
  unfold heldSl at h
  split at h
  · injection h with h; injection h with h1 h2; injection h1
  · cases h
def vers (c : List Cached) (i : Int) : List Sec := (c.filter (fun x => x.at_ == i)).map (·.data)
theorem vers_same (c : List Cached) (x : Cached) : vers (c ++ [x]) x.at_ = vers c x.at_ ++ [x.data] := by simp [vers, List.filter_append]
theorem vers_other (c : List Cached) (x : Cached) (i : Int) (h : i ≠ x.at_) : vers (c ++ [x]) i = vers c i := by
  have : (x.at_ == i) = false := by rw [beq_eq_false_iff_ne]; exact fun e => h e.symm
  simp [vers, List.filter_append, this]
theorem vers_length (c : List Cached) (i : Int) : (vers c i).length ≤ c.length := by rw [vers, List.length_map]; exact List.length_filter_le _ _
theorem vers_mem {c : List Cached} {i : Int} {s : Sec} (h : s ∈ vers c i) : ∃ x ∈ c, x.at_ = i ∧ x.data = s := by
  obtain ⟨x, hx, e⟩ := List.mem_map.1 h
  obtain ⟨h1, h2⟩ := List.mem_filter.1 hx
  exact ⟨x, h1, by simpa using h2, e⟩
theorem kInt : Keyed Tryd.prog 3 := int_keyed Tryd.underlying3
theorem elSec' : Elem Tryd.prog 32 57 8 8 := elSec
theorem zeroSecs (w : World) : (zeroValue 32).run Tryd.prog w = .ok (.slice none 0 0) w := by kernel_rfl
theorem i64_wf {i : Int} (h : -9223372036854775808 ≤ i ∧ i ≤ 9223372036854775807) : (Lit.int .i64 i).wf = true := WalkArith.wf_i64 h
/-- block mb is a map that has the versions of the places of c; its slices lie from block B on, no two in one row -/
structure VMap (B mb : Nat) (w : World) (c : List Cached) (D : DataW Value) (f : Int → Value) : Prop where
  own : w.ownsMap Tryd.prog 3 heldSl mb c.length D
  lt : mb < B
  at_ : ∀ i : Int, D.atKey (.int .i64 i) (.held (.slice none 0 0)) = .held (f i)
  sl : ∀ i : Int, Own B 57 w (f i) (vers c i)
  apart : ∀ (i j : Int) (g : Nat), (f i).ownBlock = some g → (f j).ownBlock = some g → i = j
  keys : ∀ kl : Lit, Maps.has D kl = true → ∃ x ∈ c, kl = .int .i64 x.at_
theorem own_slice {α : Type} [Rep α] {B e : Nat} {w : World} {v : Value} {xs : List α} (h : Own B e w v xs) : ∃ a n c, v = .slice a n c := by
  obtain ⟨a, c, e, _⟩ := h.sl.ex
  exact ⟨a, _, c, e⟩
theorem VMap.kept {B mb : Nat} {w w' : World} {c : List Cached} {D : DataW Value} {f : Int → Value} (h : VMap B mb w c D f) {row : Option Nat} (hg : w.grownBy w' row) (hlow : ∀ g, row = some g → g ≠ mb ∧ ∀ i, (f i).ownBlock ≠ some g) : VMap B mb w' c D f where
  own := h.own.kept hg (fun e => (hlow mb e.symm).1 rfl)
  lt := h.lt
  at_ := h.at_
  sl i := (h.sl i).grown hg (by
    cases row with
    | none => cases (f i).ownBlock <;> simp
    | some g => exact .inr ((hlow g rfl).2 i))
  apart := h.apart
  keys := h.keys
theorem VMap.below {B mb : Nat} {w w' : World} {c : List Cached} {D : DataW Value} {f : Int → Value} (h : VMap B mb w c D f) (hb : Below w.heap.size w w') : VMap B mb w' c D f :=
  h.kept (grown_of_below hb none) (fun g e => by cases e)
theorem VMap.start (w : World) (B : Nat) (hB : B = w.heap.size + 1) : VMap B w.heap.size (w.alloc (.map #[] 0)) [] (.map []) (fun _ => .slice none 0 0) where
  own := World.ownsMap_made w _ _ _
  lt := by omega
  at_ i := rfl
  sl i := Own.nil _ _ _
  apart i j g h := by cases h
  keys kl h := by cases h
theorem VMap.look {B mb : Nat} {w : World} {c : List Cached} {D : DataW Value} {f : Int → Value} (h : VMap B mb w c D f) (i : Int) (hi : -9223372036854775808 ≤ i ∧ i ≤ 9223372036854775807) :
    (Instr.lookup 111 (.map (some mb)) (.int .i64 i) false).run Tryd.prog w = .ok (f i) w := by
  obtain ⟨v, ps, hrun, hv⟩ := h.own.lookup kInt Tryd.underlying111 (zeroSecs w) (zd := .held (.slice none 0 0)) (zp := []) rfl (keyOf_int_mk Tryd.underlying3 (i64_wf hi))
  rw [h.at_ i] at hv
  rw [hrun, heldSl_inv hv]
/-- one version more -/
theorem VMap.put {B mb : Nat} {w w1 : World} {c : List Cached} {D : DataW Value} {f : Int → Value} (h : VMap B mb w c D f) (x : Cached) (hx : -9223372036854775808 ≤ x.at_ ∧ x.at_ ≤ 9223372036854775807) (v : Value) (hg : w.grownBy w1 (f x.at_).ownBlock)
    (ho : Own B 57 w1 v (vers c x.at_ ++ [x.data])) (hloc : v.ownBlock = (f x.at_).ownBlock ∨ v.ownBlock = some w.heap.size) (hsz : B ≤ w.heap.size) (hmax : c.length < maxLen) :
    ∃ w2, (Instr.mapUpdate 111 (.map (some mb)) (.int .i64 x.at_) v).run Tryd.prog w1 = .ok () w2 ∧ VMap B mb w2 (c ++ [x]) (D.put (.int .i64 x.at_) (.held v)) (fun i => if i = x.at_ then v else f i) ∧ w1.grownBy w2 (some mb) := by
  have hk := keyOf_int_mk (P := Tryd.prog) Tryd.underlying3 (i64_wf hx)
  have hfb : ∀ i g, (f i).ownBlock = some g → B ≤ g := fun i g hh => (h.sl i).base g hh
  have hflt : ∀ i g, (f i).ownBlock = some g → g < w.heap.size := fun i g hh => by
    obtain ⟨css, h0, h1, ho⟩ := (h.sl i).ex
    exact (ho.lt g hh).2
  have how1 : w1.ownsMap Tryd.prog 3 heldSl mb c.length D := h.own.kept hg (fun e => by have := hfb x.at_ mb e.symm; have := h.lt; omega)
  obtain ⟨a, n, cc, rfl⟩ := own_slice ho
  obtain ⟨w2, hrun, how2, hg2⟩ := how1.update kInt Tryd.underlying111 hmax hk (val := .slice a n cc) (d := .held (.slice a n cc)) (ps := []) rfl
  have hT : IsMap D := by obtain ⟨es, _, _, _, _, rfl⟩ := h.own; exact ⟨_, rfl⟩
  have hvb : ∀ g, (Value.slice a n cc).ownBlock = some g → B ≤ g := fun g hh => ho.base g hh
  have hoth : ∀ i, i ≠ x.at_ → Own B 57 w1 (f i) (vers c i) := fun i hi => (h.sl i).grown hg (by
    cases hb : (f i).ownBlock with
    | none => exact .inl rfl
    | some g => exact .inr (fun e => hi (h.apart i x.at_ g hb e.symm)))
  have hne : ∀ {u : Value} {ys : List Sec}, Own B 57 w1 u ys → Own B 57 w2 u ys := fun {u ys} hu => hu.grown hg2 (.inr (fun e => by have := hu.base mb e; have := h.lt; omega))
  refine ⟨w2, hrun, ⟨by simpa using how2, h.lt, fun i => ?_, fun i => ?_, fun i j g h1 h2 => ?_, fun kl hkl => ?_⟩, hg2⟩
  · by_cases hi : i = x.at_
    · subst hi
      rw [if_pos rfl, atKey_put_same hT (kInt.key hk)]
    · rw [if_neg hi, atKey_put_other (fun e => hi (by injection e)), h.at_ i]
  · by_cases hi : i = x.at_
    · subst hi
      rw [if_pos rfl, vers_same]
      exact hne ho
    · rw [if_neg hi, vers_other c x i hi]
      exact hne (hoth i hi)
  · by_cases hi : i = x.at_ <;> by_cases hj : j = x.at_
    · rw [hi, hj]
    · exfalso
      simp only [hi, hj, if_true, if_false] at h1 h2
      rcases hloc with hl | hl
      · rw [hl] at h1
        exact hj (h.apart j x.at_ g h2 h1)
      · rw [hl] at h1; injection h1 with h1; have := hflt j g h2; omega
    · exfalso
      simp only [hi, hj, if_true, if_false] at h1 h2
      rcases hloc with hl | hl
      · rw [hl] at h2
        exact hi (h.apart i x.at_ g h1 h2)
      · rw [hl] at h2; injection h2 with h2; have := hflt i g h1; omega
    · simp only [hi, hj, if_false] at h1 h2
      exact h.apart i j g h1 h2
  · by_cases he : kl = .int .i64 x.at_
    · exact ⟨x, by simp, he⟩
    · rw [has_put_other he] at hkl
      obtain ⟨y, hy, e⟩ := h.keys kl hkl
      exact ⟨y, by simp [hy], e⟩
/-- one sector more on a slice that the call itself has made, and where the new slice lies -/
theorem run_append_sec {B : Nat} {w : World} (ty : TypeId) (v : Value) (xs : List Sec) (y : Sec) (b : Nat) (hown : Own B 57 w v xs) (hy : SecAt w b 0 y) (hlen : xs.length ≤ 1000000) (hB : B ≤ w.heap.size) :
    ∃ v' w', (Builtin.append_ #[32, 32] ty #[v, .slice (some ⟨b, 0, none⟩) 1 1]).run Tryd.prog w = .ok v' w' ∧ Own B 57 w' v' (xs ++ [y]) ∧ w.grownBy w' v.ownBlock ∧ (v'.ownBlock = v.ownBlock ∨ v'.ownBlock = some w.heap.size) := by
  obtain ⟨ht, i, z, hi, hz, hsz, hby, hzs⟩ := elSec.ex
  obtain ⟨css, h0, h1, hor⟩ := hown.ex
  obtain ⟨v', w', hr, h2, h3, _, h5⟩ := run_append_own_at (P := Tryd.prog) w B 32 ty 57 i z 8 8 ht hi hz hsz hby hzs (by decide) v xs.length css.flatten hor ⟨b, 0, none⟩ 1 1 y.cells (by simp [Sec.cells]) (fun j u hu => by
    rw [Addr.add_lit]
    obtain ⟨q0, q1, q2, q3, q4, q5, q6, q7⟩ := hy
    match j, hu with
    | 0, hu => cases hu; exact q0
    | 1, hu => cases hu; exact q1
    | 2, hu => cases hu; exact q2
    | 3, hu => cases hu; exact q3
    | 4, hu => cases hu; exact q4
    | 5, hu => cases hu; exact q5
    | 6, hu => cases hu; exact q6
    | 7, hu => cases hu; exact q7
    | j + 8, hu => simp [Sec.cells] at hu) (by simp [Sec.cells, Value.oneCell']) (by simp [maxLen]; omega) (by omega) hB
  refine ⟨v', w', hr, ?_, h3, h5⟩
  exact Own.app (dss := [y.cells]) h0 (fun i x cs hx hc => PlainRep.free (h1 i x cs hx hc)) rfl (fun i x cs hx hc => by
    match i, hx, hc with
    | 0, hx, hc => cases hx; cases hc; rfl
    | i + 1, hx, hc => simp at hx) (by rw [List.flatten_singleton, List.length_singleton]; exact h2)
/-- all orders of a region end in one frame and one world -/
theorem wp_join {P : Program} {c : Code} {a : Act} {w : World} {Q : Exit → Act → World → Prop} (w6 : World) (act : Act) (h : c.wp P (fun e a' w' => match e with | .normal => a' = act ∧ w' = w6 | _ => False) a w) (hq : Q .normal act w6) : c.wp P Q a w :=
  Code.wp_mono (fun e a' w' h => by
    cases e with
    | normal => obtain ⟨h2, h3⟩ := h; subst h2 h3; exact hq
    | _ => exact h.elim) h
/-- append at a step of a region that draws its order, by an equation on its run -/
theorem step_append_run {P : Program} {w : World} {ops : Array Oper} {o : Oper} {a : Act} {K : Act → World → Prop} {Q : Exit → Act → World → Prop} {E : Prop} (hgd : o.guard = none) (s x : Operand) (t : TypeId)
    (ho : o.op = .call { callee := .builtin .append, args := #[s, x], argTypes := #[t, t] }) (v vy v' : Value) (w' : World) (hs : a.eval s = v) (hx : a.eval x = vy) (hrun : (Builtin.append_ #[t, t] o.type #[v, vy]).run P w = .ok v' w')
    (h : K (a.put o.dst v') w') : if Region.wanted o (yielded ops a.tmps) = true then o.wp P a w K Q else E := by
  rw [if_pos (by simp [Region.wanted, hgd])]
  unfold Oper.wp
  simp [execOp, ho, resolve, invoke, builtin, hs, hx, hrun, Result.andThen]
  exact h
end Go.Proofs.YtnddgpkljpjjbaaDoor
