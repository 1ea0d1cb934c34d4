/- What the four laws on interrupted Stores share. -/
import Derived.Test.YtnddgpkljpjjbaaDoorStep
import Derived.Test.YtnddgpkljpjjbaaDoorBegin
import Derived.Test.YtnddgpkljpjjbaaDoorLoads
namespace Go.Proofs.YtnddgpkljpjjbaaDoor
open Go.RowKit
set_option linter.unusedVariables false
set_option linter.unusedSimpArgs false
/-- behind a step: the new disk lies in box tb -/
structure AfterStep (wr : World) (st : List Sec) (xs : List UInt8) (tb : Nat) (out : List Sec) (sa : Option Addr) (sn : Nat) (ca : Option Addr) (cn : Nat) (dn : Bool) (W : World) : Prop where
  box : W.heap[tb]? = some (.cells #[.slice sa out.length sn, .slice ca 0 cn] 35 (0, 0))
  own1 : Own wr.heap.size 57 W (.slice sa out.length sn) out
  own2 : Own wr.heap.size 109 W (.slice ca 0 cn) ([] : List Cached)
  mix : Mixed st 5 xs out
  done : dn = true → out = whole st 5 xs
  bel : Below wr.heap.size wr W
  le : wr.heap.size ≤ tb
theorem afterA {wr w3 : World} {st : List Sec} {xs : List UInt8} {out : List Sec} {sa : Option Addr} {sn : Nat} {ca : Option Addr} {cn : Nat} {dn : Bool} (ho : OwnDisk wr.drew.heap.size w3 (.slice sa out.length sn) (.slice ca 0 cn) ⟨out, []⟩) (hm : Mixed st 5 xs out) (hd : dn = true → out = whole st 5 xs) (hb : Below wr.drew.heap.size wr.drew w3) :
    AfterStep wr st xs w3.heap.size out sa sn ca cn dn (w3.alloc (.cells #[.slice sa out.length sn, .slice ca 0 cn] 35)) :=
  ⟨heap_alloc_new w3 _, ho.1.below (below_alloc w3 _), ho.2.below (below_alloc w3 _), hm, hd, below_step (below_step (below_drew wr) hb) (below_alloc w3 _), hb.size⟩
theorem afterB {wr w3 : World} {o : Obj} {st : List Sec} {xs : List UInt8} {out : List Sec} {sa : Option Addr} {sn : Nat} {ca : Option Addr} {cn : Nat} {dn : Bool} {x y : Value} (ho : OwnDisk (wr.alloc o).drew.heap.size w3 (.slice sa out.length sn) (.slice ca 0 cn) ⟨out, []⟩) (hm : Mixed st 5 xs out) (hd : dn = true → out = whole st 5 xs) (hb : Below (wr.alloc o).drew.heap.size (wr.alloc o).drew w3) (hz : w3.heap[wr.heap.size]? = some (.cells #[x, y] 35 (0, 0))) :
    AfterStep wr st xs wr.heap.size out sa sn ca cn dn ((w3.setCell ⟨wr.heap.size, 0, none⟩ (.slice sa out.length sn)).setCell ⟨wr.heap.size, 1, none⟩ (.slice ca 0 cn)) := by
  have hlt : wr.heap.size < (wr.alloc o).drew.heap.size := by show wr.heap.size < (wr.alloc o).heap.size; simp
  have hb0 : Below wr.heap.size wr w3 := below_step (below_step (below_alloc wr o) (below_drew _)) hb
  exact ⟨heap_two1 (heap_two0 hz), ho.1.sets hlt (by omega), ho.2.sets hlt (by omega), hm, hd, (hb0.setCell (p := ⟨wr.heap.size, 0, none⟩) (Nat.le_refl _) _).setCell (p := ⟨wr.heap.size, 1, none⟩) (Nat.le_refl _) _, Nat.le_refl _⟩
theorem wp_joinS {P : Program} {c : Code} {a : Act} {w : World} {Q : Exit → Act → World → Prop} (F : Nat → List Sec → Option Addr → Nat → Option Addr → Nat → Bool → World → Prop) (act : Nat → List Sec → Option Addr → Nat → Option Addr → Nat → Bool → Act)
    (h : c.wp P (fun e a' w' => match e with | .normal => ∃ tb out sa sn ca cn dn, a' = act tb out sa sn ca cn dn ∧ F tb out sa sn ca cn dn w' | _ => False) a w) (hq : ∀ tb out sa sn ca cn dn W, F tb out sa sn ca cn dn W → Q .normal (act tb out sa sn ca cn dn) W) : c.wp P Q a w :=
  Code.wp_mono (fun e a' w' h => by
    cases e with
    | normal => obtain ⟨tb, out, sa, sn, ca, cn, dn, h2, h3⟩ := h; subst h2; exact hq _ _ _ _ _ _ _ _ h3
    | _ => exact h.elim) h
/-- the disk of a law lies in box b0; its superblock is whole -/
structure SInv (b0 : Nat) (wr : World) (sa : Option Addr) (sn : Nat) (ca : Option Addr) (cn : Nat) (st : List Sec) (k N : Nat) : Prop where
  box : wr.heap[b0]? = some (.cells #[.slice sa st.length sn, .slice ca 0 cn] 35 (0, 0))
  own1 : Own 0 57 wr (.slice sa st.length sn) st
  own2 : Own 0 109 wr (.slice ca 0 cn) ([] : List Cached)
  ne : supGen ⟨st, []⟩ 5 ≠ 0
  top : supTop ⟨st, []⟩ 5 ≤ 1 + k
  len : st.length = N + 30
  fit : N ≤ 30
theorem SInv.rep {b0 : Nat} {wr : World} {sa : Option Addr} {sn : Nat} {ca : Option Addr} {cn : Nat} {st : List Sec} {k N : Nat} (h : SInv b0 wr sa sn ca cn st k N) : DiskRep wr (.agg #[.slice sa st.length sn, .slice ca 0 cn]) ⟨st, []⟩ := ⟨_, _, rfl, h.own1.sl, h.own2.sl⟩
theorem SInv.base {b0 : Nat} {wr : World} {sa : Option Addr} {sn : Nat} {ca : Option Addr} {cn : Nat} {st : List Sec} {k N : Nat} (h : SInv b0 wr sa sn ca cn st k N) (hk : k ≤ 100) (xs : List UInt8) (hx : xs.length ≤ 31) : Base st 5 xs :=
  ⟨by have := h.len; omega, by have := h.len; have := h.fit; omega, h.ne, by have := h.top; omega, hx⟩
theorem SInv.below {b0 : Nat} {wr W : World} {sa : Option Addr} {sn : Nat} {ca : Option Addr} {cn : Nat} {st : List Sec} {k N : Nat} (h : SInv b0 wr sa sn ca cn st k N) (hb : Below wr.heap.size wr W) : SInv b0 W sa sn ca cn st k N :=
  ⟨keepB hb h.box, h.own1.below hb, h.own2.below hb, h.ne, h.top, h.len, h.fit⟩
/-- the step's disk is laid into the law's box -/
theorem SInv.next {b0 : Nat} {wr W : World} {sa : Option Addr} {sn : Nat} {ca : Option Addr} {cn : Nat} {st : List Sec} {k N : Nat} {xs : List UInt8} {tb : Nat} {out : List Sec} {sa' : Option Addr} {sn' : Nat} {ca' : Option Addr} {cn' : Nat} {dn : Bool} (h : SInv b0 wr sa sn ca cn st k N) (hk : k ≤ 100) (hx : xs.length ≤ 31) (ha : AfterStep wr st xs tb out sa' sn' ca' cn' dn W) {W' : World} (hb : Below W.heap.size W W') :
    SInv b0 ((W'.setCell ⟨b0, 0, none⟩ (.slice sa' out.length sn')).setCell ⟨b0, 1, none⟩ (.slice ca' 0 cn')) sa' sn' ca' cn' out (k + 1) N := by
  have hs := (h.base hk xs hx).step ha.mix
  have hb0 : b0 < wr.heap.size := (Array.getElem?_eq_some_iff.1 h.box).1
  refine ⟨heap_two1 (heap_two0 (keepB hb (keepB ha.bel h.box))), (ha.own1.below hb).sets hb0 (Nat.zero_le _), (ha.own2.below hb).sets hb0 (Nat.zero_le _), hs.ne, by have := hs.top; have := h.top; omega, by rw [hs.len]; exact h.len, h.fit⟩
theorem SInv.start {w1 : World} {sa : Option Addr} {sn : Nat} {ca : Option Addr} {cn : Nat} {out : List Sec} {N B : Nat} (hN : N ≤ 30) (hl : out.length = N + 30) (hg : supGen ⟨out, []⟩ 5 = 1) (ht : supTop ⟨out, []⟩ 5 ≤ 1) (ho : OwnDisk B w1 (.slice sa out.length sn) (.slice ca 0 cn) ⟨out, []⟩) :
    SInv w1.heap.size (w1.alloc (.cells #[.slice sa out.length sn, .slice ca 0 cn] 35)) sa sn ca cn out 0 N :=
  ⟨heap_alloc_new w1 _, (ho.1.below (below_alloc w1 _)).lower (Nat.zero_le _), (ho.2.below (below_alloc w1 _)).lower (Nat.zero_le _), by rw [hg]; decide, by simpa using ht, hl, hN⟩
/-- a slice of bytes lies in no box of a disk -/
theorem bytes_set {w : World} {b0 : Nat} {x y a b : Value} {v : Value} {xs : List UInt8} (hbox : w.heap[b0]? = some (.cells #[x, y] 35 (0, 0))) (hx : ∀ n, x ≠ .int .u8 n) (hy : ∀ n, y ≠ .int .u8 n) (h : SlRep w v xs) : SlRep ((w.setCell ⟨b0, 0, none⟩ a).setCell ⟨b0, 1, none⟩ b) v xs :=
  SlRep.other8 is8_u8 hbox (fun u hu n => by
    simp only [List.mem_cons, List.mem_nil_iff, or_false] at hu
    rcases hu with rfl | rfl
    · exact hx n
    · exact hy n) (fun k hk => (block_set hk).trans (block_set hk)) h
end Go.Proofs.YtnddgpkljpjjbaaDoor
