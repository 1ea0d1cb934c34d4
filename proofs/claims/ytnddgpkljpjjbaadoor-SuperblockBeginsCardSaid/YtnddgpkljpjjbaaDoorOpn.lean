/- What the reading of an argument gives the walk: a slice, a disk .. as the texts of this seat speak of them. -/
import Derived.Test.YtnddgpkljpjjbaaDoorTypes
import Derived.Deep.Slices
import Derived.OpenShut
import Derived.ChangeSame
namespace Go.Proofs.YtnddgpkljpjjbaaDoor
open Go.RowKit Go.ChangeShapes Go.WideShapes Go.Deep
set_option linter.unusedVariables false
set_option linter.unusedSimpArgs false
/-- Whatever reads as a datum of type t is the cells of some plain x, of which F holds. -/
def Opn (P : Program) (t : TypeId) (α : Type) [Rep α] (F : α → Prop) : Prop :=
  ∀ (H : Type) (enc : TypeId × Value → H) (w : World) (base : Nat) (sp : Nat → Bool) (held : Bool) (fuel : Nat) (cs : List Value) (x : DataW H × List MemPlace),
    DataW.trod enc P w base sp held fuel t cs = some x → ∃ a : α, Rep.is w cs a ∧ F a
theorem byte_mk {n : Int} (h : (Lit.int .u8 n).wf = true) : n = (((UInt8.ofNat n.toNat).toNat : Nat) : Int) := by
  have h' : (decide (IntKind.u8.min ≤ n) && decide (n ≤ IntKind.u8.max)) = true := h
  rw [show IntKind.u8.min = 0 from by decide, show IntKind.u8.max = 255 from by decide, Bool.and_eq_true, decide_eq_true_eq, decide_eq_true_eq] at h'
  rw [UInt8.toNat_ofNat']
  omega
theorem opn_byte {P : Program} {t : TypeId} (ht : P.underlying t = some (.int .u8)) : Opn P t UInt8 (fun _ => True) := by
  intro H enc w base sp held fuel cs x h
  obtain ⟨n, rfl, _, hw⟩ := DataW.trod_int ht h
  exact ⟨UInt8.ofNat n.toNat, by show [Value.int .u8 n] = [.int .u8 _]; rw [← byte_mk hw], trivial⟩
def I64 (n : Int) : Prop := -9223372036854775808 ≤ n ∧ n ≤ 9223372036854775807
theorem opn_int {P : Program} {t : TypeId} (ht : P.underlying t = some (.int .i64)) : Opn P t Int I64 := by
  intro H enc w base sp held fuel cs x h
  obtain ⟨n, rfl, _, hw⟩ := DataW.trod_int ht h
  exact ⟨n, rfl, bounds_i64 hw⟩
theorem opn_sec {P : Program} {t e : TypeId} (ht : P.underlying t = some (.array 8 e)) (he : P.underlying e = some (.int .u8)) (hs : P.cellsOf t = 8) (hc : P.cellsOf e = 1) : Opn P t Sec (fun _ => True) := by
  intro H enc w base sp held fuel cs x h
  obtain ⟨xs, m, _, _, hl, hn, hx⟩ := DataW.trod_array ht h
  rw [hs] at hl
  rw [hc] at hx
  have each : ∀ i, i < 8 → ∃ b : UInt8, cs[i]? = some (.int .u8 b.toNat) := by
    intro i hi
    have h1 := hx i hi
    rw [List.getElem?_eq_getElem (by omega)] at h1
    obtain ⟨b, hb, _⟩ := opn_byte he H enc w base sp held m _ _ h1
    refine ⟨b, ?_⟩
    have h2 : ((cs.drop (i * 1)).take 1)[0]? = some (.int .u8 b.toNat) := by rw [show (cs.drop (i * 1)).take 1 = [Value.int .u8 b.toNat] from hb]; rfl
    simpa using h2
  obtain ⟨b0, h0⟩ := each 0 (by omega)
  obtain ⟨b1, h1⟩ := each 1 (by omega)
  obtain ⟨b2, h2⟩ := each 2 (by omega)
  obtain ⟨b3, h3⟩ := each 3 (by omega)
  obtain ⟨b4, h4⟩ := each 4 (by omega)
  obtain ⟨b5, h5⟩ := each 5 (by omega)
  obtain ⟨b6, h6⟩ := each 6 (by omega)
  obtain ⟨b7, h7⟩ := each 7 (by omega)
  refine ⟨⟨b0, b1, b2, b3, b4, b5, b6, b7⟩, ?_, trivial⟩
  show cs = Sec.cells _
  apply List.ext_getElem?
  intro i
  match i with
  | 0 => exact h0
  | 1 => exact h1
  | 2 => exact h2
  | 3 => exact h3
  | 4 => exact h4
  | 5 => exact h5
  | 6 => exact h6
  | 7 => exact h7
  | i + 8 => rw [List.getElem?_eq_none (by omega)]; rfl
theorem opn_cached {P : Program} {t : TypeId} {f0 f1 : Field} (ht : P.underlying t = some (.struct #[f0, f1])) (h0 : f0.offset = 0) (h1 : f1.offset = 1) (c0 : P.cellsOf f0.type = 1) (c1 : P.cellsOf f1.type = 8) (ct : P.cellsOf t = 9)
    (g0 : Opn P f0.type Int I64) (g1 : Opn P f1.type Sec (fun _ => True)) : Opn P t Cached (fun c => I64 c.at_) := by
  intro H enc w base sp held fuel cs x h
  obtain ⟨y0, y1, n, _, hl, e0, e1⟩ := trod_struct2 ht h
  rw [h0, c0] at e0
  rw [h1, c1] at e1
  rw [ct] at hl
  obtain ⟨a, ha, hfa⟩ := g0 H enc w base sp held _ _ _ e0
  obtain ⟨s, hs, _⟩ := g1 H enc w base sp held _ _ _ e1
  refine ⟨⟨a, s⟩, ?_, hfa⟩
  match cs, hl with
  | c :: cs, hl =>
    have ha' : [c] = [Value.int .i64 a] := ha
    have hs' : cs = s.cells := by
      have : (cs.take 8) = s.cells := hs
      rwa [List.take_of_length_le (by simp at hl; omega)] at this
    injection ha' with ha'
    show c :: cs = Value.int .i64 a :: s.cells
    rw [ha', hs']
theorem choose_list {α : Type} {p : Nat → α → Prop} : ∀ n : Nat, (∀ i, i < n → ∃ x, p i x) → ∃ l : List α, l.length = n ∧ ∀ i x, l[i]? = some x → p i x
  | 0, _ => ⟨[], rfl, by simp⟩
  | n + 1, h => by
    obtain ⟨l, hl, hp⟩ := choose_list n (fun i hi => h i (by omega))
    obtain ⟨x, hx⟩ := h n (by omega)
    refine ⟨l ++ [x], by simp [hl], fun i y hy => ?_⟩
    rcases Nat.lt_or_ge i n with hi | hi
    · rw [List.getElem?_append_left (by omega)] at hy
      exact hp i y hy
    · have := (List.getElem?_eq_some_iff.1 hy).1
      simp [hl] at this
      obtain rfl : i = n := by omega
      simp [hl] at hy
      subst hy; exact hx
theorem opn_slice {P : Program} {t e : TypeId} {α : Type} [Rep α] {F : α → Prop} (ht : P.underlying t = some (.slice e)) (hc : P.cellsOf e = Rep.size α) (hf : Opn P e α F) : Opn P t (List α) (fun l => ∀ x ∈ l, F x) := by
  intro H enc w base sp held fuel cs x h
  rcases open_slice ht h with ⟨rfl, rfl⟩ | ⟨a, len, cap, m, n, D, Pl, rfl, hb, hl, hm, hmm, rfl, hx⟩
  · exact ⟨[], ⟨_, rfl, SlRep.nil w⟩, by simp⟩
  · have hlm : len ≤ m := by rw [hmm]; split <;> omega
    have each : ∀ i, i < len → ∃ y : α, F y ∧ ∃ cs', w.cells? base (a.add (i * P.cellsOf e)) (P.cellsOf e) = some cs' ∧ Rep.is w cs' y := by
      intro i hi
      obtain ⟨cs', h1, h2⟩ := hx i (by omega)
      obtain ⟨y, hy, hfy⟩ := hf H enc w base sp held n _ _ h2
      exact ⟨y, hfy, cs', h1, hy⟩
    obtain ⟨l, hll, hp⟩ := choose_list len each
    refine ⟨l, ⟨_, rfl, ⟨some a, cap, by rw [hll], ?_, by omega, by simpa [maxLen] using hm, fun h => by cases h⟩⟩, fun x hx => ?_⟩
    · intro hne
      have hpos : 0 < l.length := List.length_pos_iff.2 hne
      obtain ⟨b, off, spot⟩ := a
      have hspot : spot = none := by
        obtain ⟨_, cs', h1, h2⟩ := hp 0 _ (List.getElem?_eq_getElem hpos)
        obtain ⟨_, hlen, hcell⟩ := World.cells?_some h1
        have hk := Rep.pos (α := α)
        have h3 := hcell 0 (by rw [hc]; exact hk)
        rw [List.getElem?_eq_getElem (by omega)] at h3
        simpa [Addr.add] using World.cell?_spot h3
      subst hspot
      refine ⟨b, off, rfl, fun i x hi => ?_⟩
      obtain ⟨_, cs', h1, h2⟩ := hp i x hi
      obtain ⟨_, hlen, hcell⟩ := World.cells?_some h1
      refine ⟨cs', fun j u hu => ?_, h2⟩
      have hj : j < P.cellsOf e := by have := (List.getElem?_eq_some_iff.1 hu).1; omega
      have := hcell j hj
      rw [hu, add_add, hc] at this
      rw [← this, show off + i * Rep.size α + j = off + (i * Rep.size α + j) from by omega]
      unfold Addr.add
      split
      · next h => rw [h]; rfl
      · rfl
    · obtain ⟨i, hi⟩ := List.getElem?_of_mem hx
      exact (hp i x hi).1
theorem opn_disk {P : Program} {t : TypeId} {f0 f1 : Field} (ht : P.underlying t = some (.struct #[f0, f1])) (h0 : f0.offset = 0) (h1 : f1.offset = 1) (c0 : P.cellsOf f0.type = 1) (c1 : P.cellsOf f1.type = 1) (ct : P.cellsOf t = 2)
    (g0 : Opn P f0.type (List Sec) (fun l => ∀ x ∈ l, True)) (g1 : Opn P f1.type (List Cached) (fun l => ∀ c ∈ l, I64 c.at_))
    {H : Type} {enc : TypeId × Value → H} {w : World} {base : Nat} {sp : Nat → Bool} {held : Bool} {v : Value} {r : Reach} {b0 : Nat} {d : DataW H} {ps : List MemPlace} (hv : Value.okWide P w r b0 t v) (hd : DataW.Trod enc P w base sp held t v d ps) :
    ∃ k : Disk, DiskRep w v k ∧ ∀ c ∈ k.cache, I64 c.at_ := by
  obtain ⟨cs, rfl, hsz⟩ := okWide_struct ht hv
  obtain ⟨fuel, hd⟩ := hd
  obtain ⟨y0, y1, n, _, hl, e0, e1⟩ := trod_struct2 ht hd
  rw [h0, c0] at e0
  rw [h1, c1] at e1
  rw [ct] at hl hsz
  obtain ⟨l, ⟨v0, hv0, hl0⟩, _⟩ := g0 H enc w base sp held _ _ _ e0
  obtain ⟨m, ⟨v1, hv1, hl1⟩, hfm⟩ := g1 H enc w base sp held _ _ _ e1
  refine ⟨⟨l, m⟩, ⟨v0, v1, ?_, hl0, hl1⟩, hfm⟩
  obtain ⟨cs⟩ := cs
  match cs, hsz with
  | [x, y], _ =>
    have e0 : [x] = [v0] := by simpa [Value.cells] using hv0
    have e1 : [y] = [v1] := by simpa [Value.cells] using hv1
    injection e0 with e0
    injection e1 with e1
    rw [e0, e1]
end Go.Proofs.YtnddgpkljpjjbaaDoor
