/- Plain data of the program (sectors, disks ..), how they lie in memory, and laws of the walk that speak of them. -/
import Derived.WalkKit
import Derived.WalkLawsBesides
import Derived.WalkSpells
import Derived.Laws.AppendOwnNone
import Derived.Laws.CopyOwn
import Derived.Deep.QuietTactic
import Derived.BigQuiet
import Derived.Deep.RegionHeld3
import Derived.Lib.Hide
namespace Go.Proofs.YtnddgpkljpjjbaaDoor
open Go.RowKit
set_option linter.unusedVariables false
set_option linter.unusedSimpArgs false

/-! ### plain data -/
structure Sec where
  b0 : UInt8
  b1 : UInt8
  b2 : UInt8
  b3 : UInt8
  b4 : UInt8
  b5 : UInt8
  b6 : UInt8
  b7 : UInt8
  deriving DecidableEq
def Sec.cells (s : Sec) : List Value := [.int .u8 s.b0.toNat, .int .u8 s.b1.toNat, .int .u8 s.b2.toNat, .int .u8 s.b3.toNat, .int .u8 s.b4.toNat, .int .u8 s.b5.toNat, .int .u8 s.b6.toNat, .int .u8 s.b7.toNat]
def Sec.zero : Sec := ⟨0, 0, 0, 0, 0, 0, 0, 0⟩
structure Cached where
  at_ : Int
  data : Sec
  deriving DecidableEq
def Cached.cells (c : Cached) : List Value := .int .i64 c.at_ :: c.data.cells
structure Disk where
  stable : List Sec
  cache : List Cached
structure OpD where
  kind : Int
  at_ : Int
  data : List Sec
  deriving DecidableEq

/-! ### small -/
theorem ret_int {k : IntKind} {a b : Int} (h : a = b) : Ending.returned (.int k a) = .returned (.int k b) := by rw [h]
theorem ret_bool {a b : Bool} (h : a = b) : Ending.returned (.bool a) = .returned (.bool b) := by rw [h]
theorem below_drewN {B : Nat} {w W : World} (h : Below B w W) (n : Nat) : Below B w (W.drewN n) := ⟨h.os, h.tape, h.output, h.size, h.block⟩
theorem below_then {B : Nat} {w w1 w2 : World} (h : Below B w w1) (hB : B ≤ w1.heap.size) (k : Below w1.heap.size w1 w2) : Below B w w2 := h.trans (k.mono hB)
theorem flat_ne {α : Type} {f : α → List Value} {l : List α} {k : Nat} (hk : k < l.length) (hf : ∀ x, f x ≠ []) : l.flatMap f ≠ [] := by
  cases l with
  | nil => simp at hk
  | cons x xs => simp [hf]

/-- The world is as it was below, and the call has returned v. -/
def RetB (w : World) (v : Value) (e : Ending) (w' : World) : Prop := e = .returned v ∧ Below w.heap.size w w'
theorem RetB.mk {w : World} {v u : Value} {e : Ending} {w' : World} (he : e = .returned u) (hv : u = v) (hb : Below w.heap.size w w') : RetB w v e w' := ⟨by rw [he, hv], hb⟩

/-! ### rows in memory -/
/-- From address (b, o) on lie the cells cs. -/
def RowAt (w : World) (b o : Nat) (cs : List Value) : Prop := ∀ j u, cs[j]? = some u → w.cell? ⟨b, o + j, none⟩ = some u
theorem RowAt.below {w w' : World} {b o : Nat} {cs : List Value} (h : RowAt w b o cs) (hb : Below w.heap.size w w') : RowAt w' b o cs := fun j u hu =>
  (hb.cell (World.block_lt_of_cell? w _ (h j u hu))).trans (h j u hu)
theorem RowAt.drop {w : World} {b o : Nat} {cs : List Value} (h : RowAt w b o cs) (k : Nat) : RowAt w b (o + k) (cs.drop k) := fun j u hu => by
  have := h (k + j) u (by simpa using hu)
  rw [show o + k + j = o + (k + j) from by omega]; exact this
theorem RowAt.take {w : World} {b o : Nat} {cs : List Value} (h : RowAt w b o cs) (k : Nat) : RowAt w b o (cs.take k) := fun j u hu => by
  rw [List.getElem?_take] at hu
  split at hu
  · exact h j u hu
  · cases hu

/-- How a Go value of a type lies in cells. -/
class Rep (α : Type) where
  size : Nat
  pos : 0 < size
  is : World → List Value → α → Prop
  len : ∀ {w : World} {cs : List Value} {x : α}, is w cs x → cs.length = size
  one : ∀ {w : World} {cs : List Value} {x : α}, is w cs x → ∀ u ∈ cs, u.oneCell' = true
  below : ∀ {w w' : World} {cs : List Value} {x : α}, is w cs x → Below w.heap.size w w' → is w' cs x

instance : Rep UInt8 where
  size := 1
  pos := by decide
  is _ cs x := cs = [.int .u8 x.toNat]
  len h := by simp [h]
  one h := by simp [h, Value.oneCell']
  below h _ := h
instance : Rep Int where
  size := 1
  pos := by decide
  is _ cs x := cs = [.int .i64 x]
  len h := by simp [h]
  one h := by simp [h, Value.oneCell']
  below h _ := h
instance : Rep Sec where
  size := 8
  pos := by decide
  is _ cs x := cs = x.cells
  len h := by simp [h, Sec.cells]
  one h := by simp [h, Sec.cells, Value.oneCell']
  below h _ := h
instance : Rep Cached where
  size := 9
  pos := by decide
  is _ cs x := cs = x.cells
  len h := by simp [h, Cached.cells, Sec.cells]
  one h := by simp [h, Cached.cells, Sec.cells, Value.oneCell']
  below h _ := h

/-- The elements xs lie behind the address a. -/
def SlAt {α : Type} [Rep α] (w : World) (a : Option Addr) (xs : List α) : Prop :=
  xs ≠ [] → ∃ b o, a = some ⟨b, o, none⟩ ∧ ∀ i x, xs[i]? = some x → ∃ cs, RowAt w b (o + i * Rep.size α) cs ∧ Rep.is w cs x
theorem SlAt.below {α : Type} [Rep α] {w w' : World} {a : Option Addr} {xs : List α} (h : SlAt w a xs) (hb : Below w.heap.size w w') : SlAt w' a xs := fun hne => by
  obtain ⟨b, o, e, hr⟩ := h hne
  refine ⟨b, o, e, fun i x hx => ?_⟩
  obtain ⟨cs, h1, h2⟩ := hr i x hx
  exact ⟨cs, h1.below hb, Rep.below h2 hb⟩
theorem SlAt.elem {α : Type} [Rep α] {w : World} {a : Option Addr} {xs : List α} (h : SlAt w a xs) {i : Nat} {x : α} (hx : xs[i]? = some x) :
    ∃ b o cs, a = some ⟨b, o, none⟩ ∧ RowAt w b (o + i * Rep.size α) cs ∧ Rep.is w cs x := by
  obtain ⟨b, o, e, hr⟩ := h (by intro e; subst e; simp at hx)
  obtain ⟨cs, h1, h2⟩ := hr i x hx
  exact ⟨b, o, cs, e, h1, h2⟩
/-- A slice value with the elements xs. -/
structure SlRep {α : Type} [Rep α] (w : World) (v : Value) (xs : List α) : Prop where
  ex : ∃ a c, v = .slice a xs.length c ∧ SlAt w a xs ∧ xs.length ≤ c ∧ c ≤ 9223372036854775807 ∧ (a = none → c = 0)
theorem SlRep.below {α : Type} [Rep α] {w w' : World} {v : Value} {xs : List α} (h : SlRep w v xs) (hb : Below w.heap.size w w') : SlRep w' v xs := by
  obtain ⟨a, c, h1, h2, h3⟩ := h.ex
  exact ⟨a, c, h1, h2.below hb, h3⟩
theorem SlRep.nil {α : Type} [Rep α] (w : World) : SlRep w (.slice none 0 0) ([] : List α) := ⟨none, 0, rfl, fun h => absurd rfl h, by simp, by simp, fun _ => rfl⟩

instance {α : Type} [Rep α] : Rep (List α) where
  size := 1
  pos := by decide
  is w cs xs := ∃ v, cs = [v] ∧ SlRep w v xs
  len h := by obtain ⟨v, h, _⟩ := h; simp [h]
  one h := by
    obtain ⟨v, h, hr⟩ := h
    obtain ⟨a, c, rfl, _⟩ := hr.ex
    simp [h, Value.oneCell']
  below h hb := let ⟨v, h, hr⟩ := h; ⟨v, h, hr.below hb⟩
instance : Rep OpD where
  size := 3
  pos := by decide
  is w cs x := ∃ v, cs = [.int .i64 x.kind, .int .i64 x.at_, v] ∧ SlRep w v x.data
  len h := by obtain ⟨v, h, _⟩ := h; simp [h]
  one h := by
    obtain ⟨v, h, hr⟩ := h
    obtain ⟨a, c, rfl, _⟩ := hr.ex
    simp [h, Value.oneCell']
  below h hb := let ⟨v, h, hr⟩ := h; ⟨v, h, hr.below hb⟩

/-- A disk as a value. -/
structure DiskRep (w : World) (v : Value) (d : Disk) : Prop where
  ex : ∃ s c, v = .agg #[s, c] ∧ SlRep w s d.stable ∧ SlRep w c d.cache
theorem DiskRep.below {w w' : World} {v : Value} {d : Disk} (h : DiskRep w v d) (hb : Below w.heap.size w w') : DiskRep w' v d :=
  let ⟨s, c, h1, h2, h3⟩ := h.ex
  ⟨s, c, h1, h2.below hb, h3.below hb⟩

/-! ### what the call itself has made -/
/-- The slice v, made by the call (its block lies from base on), owns the elements xs. -/
structure Own {α : Type} [Rep α] (base : Nat) (e : TypeId) (w : World) (v : Value) (xs : List α) : Prop where
  ex : ∃ css : List (List Value), css.length = xs.length ∧ (∀ (i : Nat) (x : α) (cs : List Value), xs[i]? = some x → css[i]? = some cs → Rep.is w cs x) ∧ w.ownsRow base e (Rep.size α) v xs.length css.flatten
theorem Own.nil {α : Type} [Rep α] (base : Nat) (e : TypeId) (w : World) : Own base e w (.slice none 0 0) ([] : List α) :=
  ⟨[], rfl, by simp, World.ownsRow_nil _ _ _ _⟩

theorem flatten_get {k : Nat} : ∀ (css : List (List Value)), (∀ cs ∈ css, cs.length = k) → ∀ (i j : Nat) (cs : List Value) (u : Value), css[i]? = some cs → cs[j]? = some u → css.flatten[i * k + j]? = some u := by
  intro css
  induction css with
  | nil => intro _ i j cs u hi; simp at hi
  | cons c css ih =>
    intro hk i j cs u hi hj
    have hc : c.length = k := hk c (by simp)
    cases i with
    | zero =>
      simp at hi; subst hi
      simp only [List.flatten_cons, Nat.zero_mul, Nat.zero_add]
      rw [List.getElem?_append_left (List.getElem?_eq_some_iff.1 hj).1]; exact hj
    | succ i =>
      simp only [List.flatten_cons]
      rw [List.getElem?_append_right (by rw [hc, Nat.add_mul]; omega), hc, show (i + 1) * k + j - k = i * k + j from by rw [Nat.add_mul]; omega]
      exact ih (fun c hc => hk c (by simp [hc])) i j cs u (by simpa using hi) hj

theorem Own.lens {α : Type} [Rep α] {w : World} {xs : List α} {css : List (List Value)} (h0 : css.length = xs.length) (h1 : ∀ (i : Nat) (x : α) (cs : List Value), xs[i]? = some x → css[i]? = some cs → Rep.is w cs x) : ∀ cs ∈ css, cs.length = Rep.size α := by
  intro cs hcs
  obtain ⟨i, hi⟩ := List.getElem?_of_mem hcs
  have hlt := (List.getElem?_eq_some_iff.1 hi).1
  exact Rep.len (h1 i (xs[i]'(by omega)) cs (List.getElem?_eq_getElem (by omega)) hi)

theorem Own.sl {α : Type} [Rep α] {base : Nat} {e : TypeId} {w : World} {v : Value} {xs : List α} (h : Own base e w v xs) : SlRep w v xs := by
  obtain ⟨css, h0, h1, ho⟩ := h.ex
  rcases ho.2 with ⟨rfl, hn⟩ | ⟨g, cap, cur, rfl, hb, hg, hn, hm, hs, ht⟩
  · obtain rfl := List.eq_nil_of_length_eq_zero hn
    exact SlRep.nil w
  · refine ⟨_, cap, rfl, fun hne => ⟨g, 0, rfl, fun i x hx => ?_⟩, hn, by simpa [maxLen] using hm, fun h => by cases h⟩
    have hi : i < css.length := by have := (List.getElem?_eq_some_iff.1 hx).1; omega
    refine ⟨css[i], fun j u hu => ?_, h1 i x _ hx (List.getElem?_eq_getElem hi)⟩
    have hu' := flatten_get css (Own.lens h0 h1) i j css[i] u (List.getElem?_eq_getElem hi) hu
    have := ho.cells (g := g) rfl _ u hu'
    rw [Addr.add_lit] at this
    rw [show 0 + i * Rep.size α + j = 0 + (i * Rep.size α + j) from by omega]
    exact this
theorem grown_of_below {w w1 : World} (h : Below w.heap.size w w1) (row : Option Nat) : w.grownBy w1 row := ⟨h.os, h.tape, h.output, h.size, fun i hi _ => h.block i hi⟩
theorem below_of_grown {w w1 : World} (h : w.grownBy w1 none) : Below w.heap.size w w1 := ⟨h.os, h.tape, h.output, h.size, fun k hk => h.block k hk (by simp)⟩
theorem Own.below {α : Type} [Rep α] {base : Nat} {e : TypeId} {w w' : World} {v : Value} {xs : List α} (h : Own base e w v xs) (hb : Below w.heap.size w w') : Own base e w' v xs := by
  obtain ⟨css, h0, h1, ho⟩ := h.ex
  exact ⟨css, h0, fun i x cs hx hc => Rep.below (h1 i x cs hx hc) hb, ho.kept (grown_of_below hb none) (by cases v.ownBlock <;> simp)⟩
theorem Own.lower {α : Type} [Rep α] {base base' : Nat} {e : TypeId} {w : World} {v : Value} {xs : List α} (h : Own base e w v xs) (hb : base' ≤ base) : Own base' e w v xs := by
  obtain ⟨css, h0, h1, ho, ho2⟩ := h.ex
  refine ⟨css, h0, h1, ho, ?_⟩
  rcases ho2 with h2 | ⟨g, cap, cur, h2, h3, h4⟩
  · exact .inl h2
  · exact .inr ⟨g, cap, cur, h2, by omega, h4⟩

/-! ### elements that lie in plain cells -/
theorem SlAt.u8 {w : World} {a : Option Addr} {xs : List UInt8} (h : SlAt w a xs) {i : Nat} {x : UInt8} (hx : xs[i]? = some x) :
    ∃ b o, a = some ⟨b, o, none⟩ ∧ w.cell? ⟨b, o + i, none⟩ = some (.int .u8 x.toNat) := by
  obtain ⟨b, o, cs, e, hr, hc⟩ := h.elem hx
  obtain rfl : cs = [.int .u8 x.toNat] := hc
  exact ⟨b, o, e, by simpa [Rep.size] using hr 0 _ rfl⟩
theorem SlAt.int {w : World} {a : Option Addr} {xs : List Int} (h : SlAt w a xs) {i : Nat} {x : Int} (hx : xs[i]? = some x) :
    ∃ b o, a = some ⟨b, o, none⟩ ∧ w.cell? ⟨b, o + i, none⟩ = some (.int .i64 x) := by
  obtain ⟨b, o, cs, e, hr, hc⟩ := h.elem hx
  obtain rfl : cs = [.int .i64 x] := hc
  exact ⟨b, o, e, by simpa [Rep.size] using hr 0 _ rfl⟩
/-- The eight cells of a sector at (b, o). -/
def SecAt (w : World) (b o : Nat) (x : Sec) : Prop := w.cell? ⟨b, o, none⟩ = some (.int .u8 x.b0.toNat) ∧ w.cell? ⟨b, o + 1, none⟩ = some (.int .u8 x.b1.toNat) ∧ w.cell? ⟨b, o + 2, none⟩ = some (.int .u8 x.b2.toNat) ∧ w.cell? ⟨b, o + 3, none⟩ = some (.int .u8 x.b3.toNat) ∧
  w.cell? ⟨b, o + 4, none⟩ = some (.int .u8 x.b4.toNat) ∧ w.cell? ⟨b, o + 5, none⟩ = some (.int .u8 x.b5.toNat) ∧ w.cell? ⟨b, o + 6, none⟩ = some (.int .u8 x.b6.toNat) ∧ w.cell? ⟨b, o + 7, none⟩ = some (.int .u8 x.b7.toNat)
theorem RowAt.sec {w : World} {b o : Nat} {x : Sec} (hr : RowAt w b o x.cells) : SecAt w b o x :=
  ⟨hr 0 _ rfl, hr 1 _ rfl, hr 2 _ rfl, hr 3 _ rfl, hr 4 _ rfl, hr 5 _ rfl, hr 6 _ rfl, hr 7 _ rfl⟩
theorem SecAt.row {w : World} {b o : Nat} {x : Sec} (h : SecAt w b o x) : RowAt w b o x.cells := by
  obtain ⟨h0, h1, h2, h3, h4, h5, h6, h7⟩ := h
  intro j u hu
  match j, hu with
  | 0, hu => cases hu; exact h0
  | 1, hu => cases hu; exact h1
  | 2, hu => cases hu; exact h2
  | 3, hu => cases hu; exact h3
  | 4, hu => cases hu; exact h4
  | 5, hu => cases hu; exact h5
  | 6, hu => cases hu; exact h6
  | 7, hu => cases hu; exact h7
  | j + 8, hu => simp [Sec.cells] at hu
theorem SlAt.sec {w : World} {a : Option Addr} {xs : List Sec} (h : SlAt w a xs) {i : Nat} {x : Sec} (hx : xs[i]? = some x) :
    ∃ b o, a = some ⟨b, o, none⟩ ∧ SecAt w b (o + i * 8) x := by
  obtain ⟨b, o, cs, e, hr, hc⟩ := h.elem hx
  obtain rfl : cs = x.cells := hc
  exact ⟨b, o, e, hr.sec⟩
theorem SlAt.cached {w : World} {a : Option Addr} {xs : List Cached} (h : SlAt w a xs) {i : Nat} {x : Cached} (hx : xs[i]? = some x) :
    ∃ b o, a = some ⟨b, o, none⟩ ∧ w.cell? ⟨b, o + i * 9, none⟩ = some (.int .i64 x.at_) ∧ SecAt w b (o + i * 9 + 1) x.data := by
  obtain ⟨b, o, cs, e, hr, hc⟩ := h.elem hx
  obtain rfl : cs = x.cells := hc
  have h1 : RowAt w b (o + i * 9 + 1) x.data.cells := hr.drop 1
  exact ⟨b, o, e, hr 0 _ rfl, h1.sec⟩

/-! ### append, clone, make: laws of the walk -/
/-- What the table says of an element type. -/
structure Elem (P : Program) (t e : TypeId) (size bytes : Nat) : Prop where
  ex : P.underlying t = some (.slice e) ∧ ∃ i z, P.info? e = some i ∧ i.zero = some z ∧ i.size = size ∧ i.bytes = bytes ∧ z.cells.size = size
/-- The cells of the elements, one behind the other. -/
theorem SlRep.row {α : Type} [Rep α] {w : World} {a : Option Addr} {n c : Nat} {xs : List α} (h : SlRep w (.slice a n c) xs) (hne : xs ≠ []) :
    ∃ (b o : Nat) (css : List (List Value)), a = some ⟨b, o, none⟩ ∧ css.length = xs.length ∧ (∀ (i : Nat) (x : α) (cs : List Value), xs[i]? = some x → css[i]? = some cs → Rep.is w cs x) ∧ RowAt w b o css.flatten := by
  obtain ⟨a', c', he, hs, _⟩ := h.ex
  injection he with he _ _
  subst he
  obtain ⟨b, o, rfl, hr⟩ := hs hne
  -- choose the cells of each element
  have key : ∀ (ys : List α) (o : Nat), (∀ i x, ys[i]? = some x → ∃ cs, RowAt w b (o + i * Rep.size α) cs ∧ Rep.is w cs x) →
      ∃ css : List (List Value), css.length = ys.length ∧ (∀ (i : Nat) (x : α) (cs : List Value), ys[i]? = some x → css[i]? = some cs → Rep.is w cs x) ∧ RowAt w b o css.flatten := by
    intro ys
    induction ys with
    | nil => intro o _; exact ⟨[], rfl, by simp, by intro j u hu; simp at hu⟩
    | cons y ys ih =>
      intro o h
      obtain ⟨cs, h1, h2⟩ := h 0 y rfl
      obtain ⟨css, h3, h4, h5⟩ := ih (o + Rep.size α) (fun i x hx => by
        have := h (i + 1) x (by simpa using hx)
        rwa [show o + (i + 1) * Rep.size α = o + Rep.size α + i * Rep.size α from by rw [Nat.add_mul]; omega] at this)
      have hl := Rep.len h2
      refine ⟨cs :: css, by simp [h3], ?_, ?_⟩
      · intro i x cs' hx hc
        cases i with
        | zero => simp at hx hc; subst hx; subst hc; exact h2
        | succ i => exact h4 i x cs' (by simpa using hx) (by simpa using hc)
      · intro j u hu
        simp only [List.flatten_cons] at hu
        by_cases hj : j < cs.length
        · rw [List.getElem?_append_left hj] at hu
          have := h1 j u hu
          simpa using this
        · rw [List.getElem?_append_right (by omega), hl] at hu
          have := h5 _ u hu
          rw [show o + Rep.size α + (j - Rep.size α) = o + j from by omega] at this
          exact this
  obtain ⟨css, h3, h4, h5⟩ := key xs o hr
  exact ⟨b, o, css, rfl, h3, h4, h5⟩
theorem flatten_length {css : List (List Value)} {k : Nat} (h : ∀ cs ∈ css, cs.length = k) : css.flatten.length = css.length * k := by
  induction css with
  | nil => simp
  | cons c css ih => simp only [List.flatten_cons, List.length_append, List.length_cons, ih (fun x hx => h x (by simp [hx])), h c (by simp), Nat.add_mul]; omega

theorem Own.app {α : Type} [Rep α] {base : Nat} {e : TypeId} {w' : World} {v' : Value} {xs ys : List α} {css dss : List (List Value)}
    (h0 : css.length = xs.length) (h1 : ∀ (i : Nat) (x : α) (cs : List Value), xs[i]? = some x → css[i]? = some cs → Rep.is w' cs x)
    (g0 : dss.length = ys.length) (g1 : ∀ (i : Nat) (x : α) (cs : List Value), ys[i]? = some x → dss[i]? = some cs → Rep.is w' cs x)
    (ho : w'.ownsRow base e (Rep.size α) v' (xs.length + ys.length) (css.flatten ++ dss.flatten)) : Own base e w' v' (xs ++ ys) := by
  refine ⟨css ++ dss, by simp [h0, g0], ?_, by simpa using ho⟩
  intro i x cs hx hc
  by_cases hi : i < xs.length
  · rw [List.getElem?_append_left hi] at hx
    rw [List.getElem?_append_left (by omega)] at hc
    exact h1 i x cs hx hc
  · rw [List.getElem?_append_right (by omega)] at hx
    rw [List.getElem?_append_right (by omega), h0] at hc
    exact g1 _ x cs hx hc
/-- The plain types: how an element lies does not hang on the world. -/
class PlainRep (α : Type) extends Rep α where
  free : ∀ {w w' : World} {cs : List Value} {x : α}, Rep.is w cs x → Rep.is w' cs x
instance : PlainRep UInt8 where
  free h := h
instance : PlainRep Int where
  free h := h
instance : PlainRep Sec where
  free h := h
instance : PlainRep Cached where
  free h := h

/-- 'append(out, ys...)': out is the call's own (or nil), ys whatever reads; elements of a plain type. -/
theorem wp_append_Own {α : Type} [PlainRep α] {P : Program} {w : World} {o : Oper} {a : Act} {K : Act → World → Prop} {Q : Exit → Act → World → Prop} (s x : Operand) (t e : TypeId)
    (ho : o.op = .call { callee := .builtin .append, args := #[s, x], argTypes := #[t, t] }) (bytes : Nat) (hE : Elem P t e (Rep.size α) bytes)
    (base : Nat) (v vy : Value) (xs ys : List α) (hs : a.eval s = v) (hown : Own base e w v xs) (hx : a.eval x = vy) (hy : SlRep w vy ys)
    (h63 : xs.length + ys.length ≤ 9223372036854775807) (hbytes : (xs.length + ys.length) * bytes ≤ 140737488355328) (hbase : base ≤ w.heap.size)
    (h : ∀ v' w', Own base e w' v' (xs ++ ys) → w.grownBy w' v.ownBlock → (v' = .slice none 0 0 ↔ v = .slice none 0 0 ∧ ys = []) → K (a.put o.dst v') w') : o.wp P a w K Q := by
  obtain ⟨ht, i, z, hi, hz, hsz, hby, hzs⟩ := hE.ex
  obtain ⟨css, h0, h1, hor⟩ := hown.ex
  obtain ⟨ad, c, rfl, hsl, hlc, hc63, hnil⟩ := hy.ex
  cases ad with
  | none =>
    obtain rfl := hnil rfl
    have hy0 : ys = [] := List.eq_nil_of_length_eq_zero (by omega)
    subst hy0
    have hrun := run_append_owned_none (P := P) (w := w) base t o.type e i (Rep.size α) ht hi v xs.length css.flatten hor
    unfold Oper.wp
    simp [execOp, ho, resolve, invoke, builtin, hs, hx, hrun, Result.andThen]
    exact h v w (by simpa using hown) (World.grownBy.refl _ _) (by simp)
  | some ad =>
    by_cases hne : ys = []
    · subst hne
      refine wp_append_own _ s x t ho base e i z (Rep.size α) bytes ht hi hz hsz hby hzs Rep.pos v xs.length css.flatten hs hor ad 0 c [] hx (by simp) (by simp) (by simp) (by simpa [maxLen] using h63) (by simpa using hbytes) hbase ?_
      intro v' w' h2 h3 h4
      refine h v' w' ?_ h3 (by simpa using h4)
      exact Own.app (dss := []) h0 (fun i x cs hx hc => PlainRep.free (h1 i x cs hx hc)) rfl (by simp) (by simpa using h2)
    · obtain ⟨b, o', dss, he, g0, g1, hrow⟩ := hy.row hne
      injection he with he
      subst he
      have hl : dss.flatten.length = ys.length * Rep.size α := by rw [flatten_length (Own.lens g0 g1), g0]
      refine wp_append_own _ s x t ho base e i z (Rep.size α) bytes ht hi hz hsz hby hzs Rep.pos v xs.length css.flatten hs hor ⟨b, o', none⟩ ys.length c dss.flatten hx hl ?_ ?_ (by simpa [maxLen] using h63) hbytes hbase ?_
      · intro j u hu
        rw [Addr.add_lit]; exact hrow j u hu
      · intro u hu
        obtain ⟨cs, hcs, hu⟩ := List.mem_flatten.1 hu
        obtain ⟨k, hk⟩ := List.getElem?_of_mem hcs
        have hlt := (List.getElem?_eq_some_iff.1 hk).1
        exact Rep.one (g1 k (ys[k]'(by omega)) cs (List.getElem?_eq_getElem (by omega)) hk) u hu
      · intro v' w' h2 h3 h4
        refine h v' w' ?_ h3 ?_
        · exact Own.app h0 (fun i x cs hx hc => PlainRep.free (h1 i x cs hx hc)) g0 (fun i x cs hx hc => PlainRep.free (g1 i x cs hx hc)) h2
        · rw [h4]
          have : ys.length ≠ 0 := fun h => hne (List.eq_nil_of_length_eq_zero h)
          simp [this, hne]

theorem wpList_append_Own {α : Type} [PlainRep α] {P : Program} {w : World} {ops : Array Oper} {rest : List Oper} {o : Oper} {a : Act} {Q : Exit → Act → World → Prop} (hgd : o.guard = none) (s x : Operand) (t e : TypeId)
    (ho : o.op = .call { callee := .builtin .append, args := #[s, x], argTypes := #[t, t] }) (bytes : Nat) (hE : Elem P t e (Rep.size α) bytes)
    (base : Nat) (v vy : Value) (xs ys : List α) (hs : a.eval s = v) (hown : Own base e w v xs) (hx : a.eval x = vy) (hy : SlRep w vy ys)
    (h63 : xs.length + ys.length ≤ 9223372036854775807) (hbytes : (xs.length + ys.length) * bytes ≤ 140737488355328) (hbase : base ≤ w.heap.size)
    (h : ∀ v' w', Own base e w' v' (xs ++ ys) → w.grownBy w' v.ownBlock → (v' = .slice none 0 0 ↔ v = .slice none 0 0 ∧ ys = []) → wpList P ops Q rest (a.put o.dst v') w') : wpList P ops Q (o :: rest) a w :=
  wpList_plain hgd fun K hK => wp_append_Own s x t e ho bytes hE base v vy xs ys hs hown hx hy h63 hbytes hbase fun v' w' h1 h2 h3 => hK _ _ (h v' w' h1 h2 h3)
theorem step_append_Own {α : Type} [PlainRep α] {P : Program} {w : World} {ops : Array Oper} {o : Oper} {a : Act} {K : Act → World → Prop} {Q : Exit → Act → World → Prop} {E : Prop} (hgd : o.guard = none) (s x : Operand) (t e : TypeId)
    (ho : o.op = .call { callee := .builtin .append, args := #[s, x], argTypes := #[t, t] }) (bytes : Nat) (hE : Elem P t e (Rep.size α) bytes)
    (base : Nat) (v vy : Value) (xs ys : List α) (hs : a.eval s = v) (hown : Own base e w v xs) (hx : a.eval x = vy) (hy : SlRep w vy ys)
    (h63 : xs.length + ys.length ≤ 9223372036854775807) (hbytes : (xs.length + ys.length) * bytes ≤ 140737488355328) (hbase : base ≤ w.heap.size)
    (h : ∀ v' w', Own base e w' v' (xs ++ ys) → w.grownBy w' v.ownBlock → (v' = .slice none 0 0 ↔ v = .slice none 0 0 ∧ ys = []) → K (a.put o.dst v') w') : if Region.wanted o (yielded ops a.tmps) = true then o.wp P a w K Q else E := by
  rw [if_pos (by simp [Region.wanted, hgd])]
  exact wp_append_Own s x t e ho bytes hE base v vy xs ys hs hown hx hy h63 hbytes hbase h

/-! ### a store into an element of what the call itself has made -/
theorem run_storeVar_at {P : Program} (w : World) (g o : Nat) (ty t : TypeId) (cur : Array Value) (val : Value) (hg : w.heap[g]? = some (.cells cur t (0, 0))) (hi : (P.info? ty).map (·.size) = some val.cells.size)
    (hfit : o + val.cells.size ≤ cur.size) (h1 : ∀ u ∈ val.cells.toList, u.oneCell' = true) :
    (storeVar ty ⟨g, o, none⟩ val).run P w = .ok () (w.setRow g (cur.toList.take o ++ val.cells.toList ++ cur.toList.drop (o + val.cells.size)).toArray) := by
  have := run_storeCells_at P g o t val.cells.toList 0 cur w hg (by simpa using hfit) h1
  cases hq : P.info? ty with
  | none => simp [hq] at hi
  | some i =>
    have hs : val.cells.size = i.size := by simp [hq] at hi; omega
    simp only [Nat.add_zero, Array.length_toList] at this
    simp [storeVar, sizeOf, typeInfo, hq, hs, this]
theorem flatten_set {k : Nat} : ∀ (css : List (List Value)), (∀ cs ∈ css, cs.length = k) → ∀ (i : Nat) (cs : List Value), cs.length = k → i < css.length →
    (css.set i cs).flatten = css.flatten.take (i * k) ++ cs ++ css.flatten.drop (i * k + k) := by
  intro css
  induction css with
  | nil => intro _ i cs _ hi; simp at hi
  | cons c css ih =>
    intro hk i cs hcs hi
    have hc : c.length = k := hk c (by simp)
    cases i with
    | zero => simp [List.drop_append, hc]
    | succ i =>
      simp only [List.set_cons_succ, List.flatten_cons]
      rw [ih (fun x hx => hk x (by simp [hx])) i cs hcs (by simpa using hi)]
      have e1 : (i + 1) * k = c.length + i * k := by rw [hc, Nat.add_mul]; omega
      rw [e1, List.take_length_add_append, Nat.add_assoc, List.drop_length_add_append]
      simp
theorem grown_setRow (w : World) (g : Nat) (cs : Array Value) : w.grownBy (w.setRow g cs) (some g) :=
  ⟨rfl, rfl, rfl, by simp, fun k hk hne => setRow_other w g k cs (by simpa using hne)⟩
theorem wp_store_Own {α : Type} [PlainRep α] {P : Program} {w : World} {op : Oper} {a : Act} {K : Act → World → Prop} {Q : Exit → Act → World → Prop} (ty : TypeId) (x y : Operand)
    (ho : op.op = .store ty x y) (hi : (P.info? ty).map (·.size) = some (Rep.size α)) (base e : Nat) (g i o n cap : Nat) (xs : List α) (z : α) (val : Value) (hown : Own base e w (.slice (some ⟨g, 0, none⟩) n cap) xs)
    (hx : a.eval x = .pointer (some ⟨g, o, none⟩)) (hy : a.eval y = val) (hz : Rep.is w val.cells.toList z) (hlt : i < xs.length) (hoff : o = i * Rep.size α)
    (h : ∀ w', Own base e w' (.slice (some ⟨g, 0, none⟩) n cap) (xs.set i z) → w.grownBy w' (some g) → K (a.put op.dst undef) w') : op.wp P a w K Q := by
  obtain ⟨css, h0, h1, hl, hor⟩ := hown.ex
  rcases hor with ⟨hv, _⟩ | ⟨g', cap', cur, hv, hb, hg, hn, hm, hs, ht⟩
  · cases hv
  injection hv with e1 e2 e3
  injection e1 with e1
  injection e1 with e1 _
  subst e1; subst e2; subst e3
  have hlen := Own.lens h0 h1
  have hsz : val.cells.size = Rep.size α := by simpa using Rep.len hz
  have hfl : css.flatten.length = xs.length * Rep.size α := by rw [flatten_length hlen, h0]
  have hle : i * Rep.size α + Rep.size α ≤ xs.length * Rep.size α := by rw [← Nat.succ_mul]; exact Nat.mul_le_mul_right _ hlt
  have hcur : xs.length * Rep.size α ≤ cur.size := by rw [hs]; exact Nat.mul_le_mul_right _ hn
  subst hoff
  have hrun := run_storeVar_at (P := P) w g (i * Rep.size α) ty e cur val hg (by rw [hi, hsz]) (by omega) (Rep.one hz)
  unfold Oper.wp execOp
  simp only [ho, hx, hy, Instr.storeAt, Instr.sureAddr, Sem.run_bind, Sem.run_pure, Result.andThen_ok, hrun]
  refine h _ ⟨css.set i val.cells.toList, by simp [h0], ?_, ?_⟩ (grown_setRow w g _)
  · intro j x' cs hx' hc
    rw [List.getElem?_set] at hx' hc
    by_cases hij : i = j
    · subst hij
      simp only [if_true, hlt, h0] at hx' hc
      injection hx' with hx'; injection hc with hc; subst hx'; subst hc
      exact PlainRep.free hz
    · rw [if_neg hij] at hx' hc
      exact PlainRep.free (h1 j x' cs hx' hc)
  · refine ⟨?_, .inr ⟨g, cap, _, by simp, hb, setRow_heap w g cur _ e _ hg, by simpa using hn, hm, ?_, ?_⟩⟩
    · rw [flatten_length (k := Rep.size α)]
      · simp [h0]
      · intro cs hcs
        rcases List.mem_or_eq_of_mem_set hcs with h | h
        · exact hlen cs h
        · subst h; simpa using hsz
    · simp; omega
    · rw [flatten_set css hlen i val.cells.toList (by simpa using hsz) (by omega), ← ht]
      simp only [List.length_set, hsz, List.append_assoc]
      have hvl : val.cells.toList.length = Rep.size α := by simpa using hsz
      have e0 : (cur.toList.take (i * Rep.size α)).length = i * Rep.size α := by rw [List.length_take, Array.length_toList]; omega
      obtain ⟨m, hm'⟩ : ∃ m, xs.length * Rep.size α = i * Rep.size α + (Rep.size α + m) := ⟨xs.length * Rep.size α - (i * Rep.size α + Rep.size α), by omega⟩
      rw [hm']
      have e1 : List.take (i * Rep.size α + (Rep.size α + m)) (cur.toList.take (i * Rep.size α) ++ (val.cells.toList ++ cur.toList.drop (i * Rep.size α + Rep.size α))) =
          cur.toList.take (i * Rep.size α) ++ (val.cells.toList ++ (cur.toList.drop (i * Rep.size α + Rep.size α)).take m) := by
        conv => lhs; rw [← e0]
        rw [e0]
        conv => lhs; arg 1; rw [← e0]
        rw [List.take_length_add_append]
        congr 1
        conv => lhs; arg 1; rw [← hvl]
        rw [List.take_length_add_append]
      rw [e1, List.take_take, Nat.min_eq_left (by omega), List.drop_take, show i * Rep.size α + (Rep.size α + m) - (i * Rep.size α + Rep.size α) = m from by omega]

theorem wpList_store_Own {α : Type} [PlainRep α] {P : Program} {w : World} {ops : Array Oper} {rest : List Oper} {op : Oper} {a : Act} {Q : Exit → Act → World → Prop} (hgd : op.guard = none) (ty : TypeId) (x y : Operand)
    (ho : op.op = .store ty x y) (hi : (P.info? ty).map (·.size) = some (Rep.size α)) (base e : Nat) (g i o n cap : Nat) (xs : List α) (z : α) (val : Value) (hown : Own base e w (.slice (some ⟨g, 0, none⟩) n cap) xs)
    (hx : a.eval x = .pointer (some ⟨g, o, none⟩)) (hy : a.eval y = val) (hz : Rep.is w val.cells.toList z) (hlt : i < xs.length) (hoff : o = i * Rep.size α)
    (h : ∀ w', Own base e w' (.slice (some ⟨g, 0, none⟩) n cap) (xs.set i z) → w.grownBy w' (some g) → wpList P ops Q rest (a.put op.dst undef) w') : wpList P ops Q (op :: rest) a w :=
  wpList_plain hgd fun K hK => wp_store_Own ty x y ho hi base e g i o n cap xs z val hown hx hy hz hlt hoff fun w' h1 h2 => hK _ _ (h w' h1 h2)
theorem step_store_Own {α : Type} [PlainRep α] {P : Program} {w : World} {ops : Array Oper} {op : Oper} {a : Act} {K : Act → World → Prop} {Q : Exit → Act → World → Prop} {E : Prop} (hgd : op.guard = none) (ty : TypeId) (x y : Operand)
    (ho : op.op = .store ty x y) (hi : (P.info? ty).map (·.size) = some (Rep.size α)) (base e : Nat) (g i o n cap : Nat) (xs : List α) (z : α) (val : Value) (hown : Own base e w (.slice (some ⟨g, 0, none⟩) n cap) xs)
    (hx : a.eval x = .pointer (some ⟨g, o, none⟩)) (hy : a.eval y = val) (hz : Rep.is w val.cells.toList z) (hlt : i < xs.length) (hoff : o = i * Rep.size α)
    (h : ∀ w', Own base e w' (.slice (some ⟨g, 0, none⟩) n cap) (xs.set i z) → w.grownBy w' (some g) → K (a.put op.dst undef) w') : if Region.wanted op (yielded ops a.tmps) = true then op.wp P a w K Q else E := by
  rw [if_pos (by simp [Region.wanted, hgd])]
  exact wp_store_Own ty x y ho hi base e g i o n cap xs z val hown hx hy hz hlt hoff h
theorem Own.shape {α : Type} [Rep α] {base : Nat} {e : TypeId} {w : World} {v : Value} {xs : List α} (h : Own base e w v xs) (hne : 0 < xs.length) :
    ∃ g cap, v = .slice (some ⟨g, 0, none⟩) xs.length cap ∧ base ≤ g ∧ g < w.heap.size ∧ xs.length ≤ cap ∧ cap ≤ 9223372036854775807 := by
  obtain ⟨css, h0, h1, hl, hor⟩ := h.ex
  rcases hor with ⟨rfl, hn⟩ | ⟨g, cap, cur, rfl, hb, hg, hn, hm, hs, ht⟩
  · omega
  · exact ⟨g, cap, rfl, hb, (Array.getElem?_eq_some_iff.1 hg).1, hn, by simpa [maxLen] using hm⟩
theorem Own.grown {α : Type} [PlainRep α] {base : Nat} {e : TypeId} {w w' : World} {v : Value} {xs : List α} (h : Own base e w v xs) {row : Option Nat} (hg : w.grownBy w' row) (hne : v.ownBlock = none ∨ v.ownBlock ≠ row) : Own base e w' v xs := by
  obtain ⟨css, h0, h1, ho⟩ := h.ex
  exact ⟨css, h0, fun i x cs hx hc => PlainRep.free (h1 i x cs hx hc), ho.kept hg hne⟩

theorem bcell {W w1 : World} (hb : Below W.heap.size W w1) : (∀ b o, b < W.heap.size → w1.cell? ⟨b, o, none⟩ = W.cell? ⟨b, o, none⟩) ∧ (∀ b o, b < W.heap.size → w1.frozen? ⟨b, o, none⟩ = W.frozen? ⟨b, o, none⟩) :=
  ⟨fun b o h => hb.cell (p := ⟨b, o, none⟩) h, fun b o h => hb.frozen (p := ⟨b, o, none⟩) h⟩
theorem below_alloc (w : World) (o : Obj) : Below w.heap.size w (w.alloc o) := (Below.refl _ _).alloc (Nat.le_refl _) _
theorem below_alloc2 (w : World) (o o' : Obj) : Below w.heap.size w ((w.alloc o).alloc o') := (below_alloc w o).alloc (by simp) _
theorem below_alloc3 (w : World) (o o' o'' : Obj) : Below w.heap.size w (((w.alloc o).alloc o').alloc o'') := (below_alloc2 w o o').alloc (by simp; omega) _
/-- one step more -/
theorem below_step {w0 w w1 : World} (h : Below w0.heap.size w0 w) (k : Below w.heap.size w w1) : Below w0.heap.size w0 w1 := below_then h h.size k
/-- A cell that was there is as it was. -/
theorem keep {W w1 : World} (hb : Below W.heap.size W w1) {p : Addr} {v : Value} (h : W.cell? p = some v) : w1.cell? p = some v := (hb.cell (World.block_lt_of_cell? W p h)).trans h

/-- A part of a slice. -/
theorem SlAt.sub {α : Type} [Rep α] {w : World} {a a' : Option Addr} {xs : List α} (h : SlAt w a xs) (s c : Nat) (hsc : s + c ≤ xs.length) (ha : c ≠ 0 → a' = a.map (fun x => x.add (s * Rep.size α))) : SlAt w a' ((xs.drop s).take c) := by
  intro hne
  have hc : c ≠ 0 := fun e => by subst e; simp at hne
  obtain ⟨b, o, rfl, hr⟩ := h (by intro e; subst e; simp at hne)
  refine ⟨b, o + s * Rep.size α, by rw [ha hc]; simp [Addr.add_lit], fun i x hx => ?_⟩
  rw [List.getElem?_take] at hx
  split at hx
  · rename_i hlt
    obtain ⟨cs, h1, h2⟩ := hr (s + i) x (by simpa using hx)
    refine ⟨cs, ?_, h2⟩
    rw [show o + s * Rep.size α + i * Rep.size α = o + (s + i) * Rep.size α from by rw [Nat.add_mul]; omega]
    exact h1
  · cases hx
theorem below_drew (w : World) : Below w.heap.size w w.drew := (Below.refl _ _).drew
theorem Own.drew {α : Type} [Rep α] {base : Nat} {e : TypeId} {w : World} {v : Value} {xs : List α} (h : Own base e w v xs) : Own base e w.drew v xs := h.below (below_drew w)
theorem SlRep.drew {α : Type} [Rep α] {w : World} {v : Value} {xs : List α} (h : SlRep w v xs) : SlRep w.drew v xs := h.below (below_drew w)
theorem SecAt.below {w w' : World} {b o : Nat} {x : Sec} (h : SecAt w b o x) (hb : Below w.heap.size w w') : SecAt w' b o x := (h.row.below hb).sec
theorem Own.base {α : Type} [Rep α] {base : Nat} {e : TypeId} {w : World} {v : Value} {xs : List α} (h : Own base e w v xs) : ∀ k, v.ownBlock = some k → base ≤ k := fun k hk => by
  obtain ⟨css, h0, h1, ho⟩ := h.ex
  exact (ho.lt k hk).1
end Go.Proofs.YtnddgpkljpjjbaaDoor
