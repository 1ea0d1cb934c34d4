/- A region that draws its order, whose operations read old memory and call functions whose answer does not hang on the world (they may make memory): one walk in the order of the text. -/
import Derived.Test.YtnddgpkljpjjbaaDoorBase
namespace Go.Proofs.YtnddgpkljpjjbaaDoor
open Go.RowKit
set_option linter.unusedVariables false
set_option linter.unusedSimpArgs false
/-- w' came out of w: what was there is as it was. -/
def Later (w w' : World) : Prop := Below w.heap.size w w'
theorem Later.step {w w' w'' : World} (h : Later w w') (k : Below w'.heap.size w' w'') : Later w w'' := below_step h k
theorem Later.cell {w w' : World} (h : Later w w') {p : Addr} {v : Value} (hc : w.cell? p = some v) : w'.cell? p = some v := keep h hc
theorem wp_region_later {P : Program} {id : Nat} {Q : Exit → Act → World → Prop} {a : Act} {w : World} {l : List Oper} (hm : P.follows .mixedOrders = true) (hB : Region.lexB .any l.toArray = true)
    (h : wpQuiet P l.toArray (Later w) (fun a' => ∀ w', Later w w' → Q .normal a' w') l a) : (Code.region id l.toArray true).wp P Q a w :=
  wp_region_quiet (C := Later w) hm hB (below_drew w) (by simpa using h)
theorem later_value {P : Program} {w : World} {ops : Array Oper} {o : Oper} {rest : List Oper} {Q : Act → Prop} {a a' : Act} {v : Value} (hg : o.guard = none)
    (h1 : ∀ w', Later w w' → (execOp a.eval o).run P w' = .ok (.value v) w') (ha : a.put o.dst v = a') (h2 : wpQuiet P ops (Later w) Q rest a') : wpQuiet P ops (Later w) Q (o :: rest) a := by
  refine wpQuiet_step fun K hK => ?_
  rw [if_pos (by simp [Region.wanted, hg])]
  refine ⟨v, fun w' hw' => ?_, hK _ (ha ▸ h2)⟩
  unfold Oper.quietAt
  rw [h1 w' hw']
  exact ⟨rfl, rfl⟩
theorem later_call {P : Program} {w : World} {ops : Array Oper} {o : Oper} {rest : List Oper} {Q : Act → Prop} {a a' : Act} {v : Value} {f : FuncId} {args : Array Value} (hg : o.guard = none)
    (h1 : ∀ w', Later w w' → (execOp a.eval o).run P w' = .ok (.enter f args) w') (hc : ∀ w', Later w w' → Calls P f args w' (RetB w' v)) (ha : a.put o.dst v = a') (h2 : wpQuiet P ops (Later w) Q rest a') : wpQuiet P ops (Later w) Q (o :: rest) a := by
  refine wpQuiet_step fun K hK => ?_
  rw [if_pos (by simp [Region.wanted, hg])]
  refine ⟨v, fun w' hw' => ?_, hK _ (ha ▸ h2)⟩
  unfold Oper.quietAt
  rw [h1 w' hw']
  exact ⟨rfl, (hc w' hw').mono fun e w'' ⟨he, hb⟩ => ⟨he, hw'.step hb⟩⟩
theorem keepB {W w1 : World} (hb : Below W.heap.size W w1) {k : Nat} {o : Obj} (h : W.heap[k]? = some o) : w1.heap[k]? = some o :=
  (hb.block k (Array.getElem?_eq_some_iff.1 h).1).trans h
theorem keepG {W w1 : World} {row : Option Nat} (hg : W.grownBy w1 row) {k : Nat} {o : Obj} (h : W.heap[k]? = some o) (hne : some k ≠ row) : w1.heap[k]? = some o :=
  (hg.block k (Array.getElem?_eq_some_iff.1 h).1 hne).trans h
theorem box_sec (w : World) (s : Sec) (t : TypeId) : SecAt (w.alloc (.cells #[.int .u8 s.b0.toNat, .int .u8 s.b1.toNat, .int .u8 s.b2.toNat, .int .u8 s.b3.toNat, .int .u8 s.b4.toNat, .int .u8 s.b5.toNat, .int .u8 s.b6.toNat, .int .u8 s.b7.toNat] t)) w.heap.size 0 s := by
  refine ⟨?_, ?_, ?_, ?_, ?_, ?_, ?_, ?_⟩ <;> simp [go_sem]
theorem Own.sound {α : Type} [Rep α] {base : Nat} {e : TypeId} {w : World} {v : Value} {xs : List α} (h : Own base e w v xs) : ∀ k, k < base → v.ownBlock ≠ some k := fun k hk e => by have := h.base k e; omega
theorem Own.slat {α : Type} [Rep α] {base : Nat} {e : TypeId} {w : World} {a : Option Addr} {n c : Nat} {xs : List α} (h : Own base e w (.slice a n c) xs) : SlAt w a xs := by
  obtain ⟨a', c', he, hs, _⟩ := h.sl.ex
  injection he with e1 _ _
  subst e1
  exact hs
theorem SlAt.u8' {w : World} {g o : Nat} {xs : List UInt8} (h : SlAt w (some ⟨g, o, none⟩) xs) {i : Nat} {x : UInt8} (hx : xs[i]? = some x) : w.cell? ⟨g, o + i, none⟩ = some (.int .u8 x.toNat) := by
  obtain ⟨b', o', e, h⟩ := h.u8 hx
  injection e with e; injection e with e1 e2 _; subst e1; subst e2
  exact h
theorem SlAt.int' {w : World} {g o : Nat} {xs : List Int} (h : SlAt w (some ⟨g, o, none⟩) xs) {i : Nat} {x : Int} (hx : xs[i]? = some x) : w.cell? ⟨g, o + i, none⟩ = some (.int .i64 x) := by
  obtain ⟨b', o', e, h⟩ := h.int hx
  injection e with e; injection e with e1 e2 _; subst e1; subst e2
  exact h
theorem SlAt.sec' {w : World} {g o : Nat} {xs : List Sec} (h : SlAt w (some ⟨g, o, none⟩) xs) {i : Nat} {x : Sec} (hx : xs[i]? = some x) : SecAt w g (o + i * 8) x := by
  obtain ⟨b', o', e, h⟩ := h.sec hx
  injection e with e; injection e with e1 e2 _; subst e1; subst e2
  exact h
theorem cell_other {w : World} {g i b o : Nat} {v : Value} (h : b ≠ g) : (w.setCell ⟨g, i, none⟩ v).cell? ⟨b, o, none⟩ = w.cell? ⟨b, o, none⟩ :=
  World.cell?_of_block (w := w) (heap_setCell_other w ⟨g, i, none⟩ b v h)
theorem SlAt.of_block {α : Type} [PlainRep α] {w w' : World} {g o : Nat} {xs : List α} (h : SlAt w (some ⟨g, o, none⟩) xs) (hg : w'.heap[g]? = w.heap[g]?) : SlAt w' (some ⟨g, o, none⟩) xs := fun hne => by
  obtain ⟨b, o', e, hr⟩ := h hne
  injection e with e; injection e with e1 e2 _; subst e1; subst e2
  refine ⟨_, _, rfl, fun i x hx => ?_⟩
  obtain ⟨cs, h1, h2⟩ := hr i x hx
  exact ⟨cs, fun j u hu => (World.cell?_of_block (w := w) hg).trans (h1 j u hu), PlainRep.free h2⟩
theorem block_set {w : World} {g i k : Nat} {v : Value} (h : k ≠ g) : (w.setCell ⟨g, i, none⟩ v).heap[k]? = w.heap[k]? := heap_setCell_other w ⟨g, i, none⟩ k v h
end Go.Proofs.YtnddgpkljpjjbaaDoor
