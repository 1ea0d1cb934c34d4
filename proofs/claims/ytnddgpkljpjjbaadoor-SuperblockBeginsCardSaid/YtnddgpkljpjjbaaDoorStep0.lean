/- law12: a step as plain data; how it is opened; law12.small. -/
import Derived.Test.YtnddgpkljpjjbaaDoorOpn
import Derived.Test.YtnddgpkljpjjbaaDoorExec3
namespace Go.Proofs.YtnddgpkljpjjbaaDoor
open Go.RowKit Go.ChangeShapes Go.WideShapes Go.Deep
set_option linter.unusedVariables false
set_option linter.unusedSimpArgs false
structure StepD where
  payload : List UInt8
  after : UInt8
  choices : List Int
instance : Rep StepD where
  size := 3
  pos := by decide
  is w cs x := ∃ v u, cs = [v, .int .u8 x.after.toNat, u] ∧ SlRep w v x.payload ∧ SlRep w u x.choices
  len h := by obtain ⟨v, u, h, _⟩ := h; simp [h]
  one h := by
    obtain ⟨v, u, h, hv, hu⟩ := h
    obtain ⟨a, c, rfl, _⟩ := hv.ex
    obtain ⟨a', c', rfl, _⟩ := hu.ex
    simp [h, Value.oneCell']
  below h hb := let ⟨v, u, h, hv, hu⟩ := h; ⟨v, u, h, hv.below hb, hu.below hb⟩
def StepOk (s : StepD) : Prop := ∀ x ∈ s.choices, I64 x
theorem opn_step {P : Program} {t : TypeId} {f0 f1 f2 : Field} (ht : P.underlying t = some (.struct #[f0, f1, f2])) (h0 : f0.offset = 0) (h1 : f1.offset = 1) (h2 : f2.offset = 2) (c0 : P.cellsOf f0.type = 1) (c1 : P.cellsOf f1.type = 1) (c2 : P.cellsOf f2.type = 1) (ct : P.cellsOf t = 3)
    (g0 : Opn P f0.type (List UInt8) (fun l => ∀ x ∈ l, True)) (g1 : Opn P f1.type UInt8 (fun _ => True)) (g2 : Opn P f2.type (List Int) (fun l => ∀ x ∈ l, I64 x)) : Opn P t StepD StepOk := by
  intro H enc w base sp held fuel cs x h
  obtain ⟨xs, n, _, _, hl, hn, hx⟩ := DataW.trod_struct ht h
  rw [ct] at hl
  match xs, hn with
  | [y0, y1, y2], _ =>
    have e0 := hx 0 f0 rfl
    have e1 := hx 1 f1 rfl
    have e2 := hx 2 f2 rfl
    rw [h0, c0] at e0
    rw [h1, c1] at e1
    rw [h2, c2] at e2
    obtain ⟨p, ⟨v, hv, hp⟩, _⟩ := g0 H enc w base sp held _ _ _ e0
    obtain ⟨a, ha, _⟩ := g1 H enc w base sp held _ _ _ e1
    obtain ⟨l, ⟨u, hu, hl'⟩, hf⟩ := g2 H enc w base sp held _ _ _ e2
    refine ⟨⟨p, a, l⟩, ⟨v, u, ?_, hp, hl'⟩, hf⟩
    match cs, hl with
    | [b0, b1, b2], _ =>
      have e0 : [b0] = [v] := hv
      have e1 : [b1] = [Value.int .u8 a.toNat] := ha
      have e2 : [b2] = [u] := hu
      injection e0 with e0; injection e1 with e1; injection e2 with e2
      rw [e0, e1, e2]
def stepFits (s : StepD) : Bool := decide (s.payload.length ≤ 31) && decide (s.choices.length ≤ 40)
def smallB (l : List StepD) : Bool := l.all stepFits && decide (l.length ≤ 12)
theorem SlAt.step {w : World} {a : Option Addr} {xs : List StepD} (h : SlAt w a xs) {i : Nat} {x : StepD} (hx : xs[i]? = some x) :
    ∃ (b o : Nat) (pa : Option Addr) (pc : Nat) (ca : Option Addr) (cc : Nat), a = some ⟨b, o, none⟩ ∧ w.cell? ⟨b, o + i * 3, none⟩ = some (.slice pa x.payload.length pc) ∧ w.cell? ⟨b, o + i * 3 + 1, none⟩ = some (.int .u8 x.after.toNat) ∧ w.cell? ⟨b, o + i * 3 + 2, none⟩ = some (.slice ca x.choices.length cc) ∧ SlRep w (.slice pa x.payload.length pc) x.payload ∧ SlRep w (.slice ca x.choices.length cc) x.choices := by
  obtain ⟨b, o, cs, e, hr, hc⟩ := h.elem hx
  obtain ⟨v, u, rfl, hv, hu⟩ := hc
  obtain ⟨pa, pc, rfl, _⟩ := hv.ex
  obtain ⟨ca, cc, rfl, _⟩ := hu.ex
  exact ⟨b, o, pa, pc, ca, cc, e, hr 0 _ rfl, hr 1 _ rfl, hr 2 _ rfl, hv, hu⟩
theorem all_done {l : List StepD} {k : Nat} (h : ∀ j x, j < k → l[j]? = some x → stepFits x = true) (hk : l.length ≤ k) : l.all stepFits = true := by
  rw [List.all_eq_true]
  intro x hx
  obtain ⟨j, hj⟩ := List.getElem?_of_mem hx
  exact h j x (by have := (List.getElem?_eq_some_iff.1 hj).1; omega) hj
theorem all_bad {l : List StepD} {k : Nat} {x : StepD} (h : l[k]? = some x) (hb : stepFits x = false) : smallB l = false := by
  have : l.all stepFits = false := by
    rw [List.all_eq_false]
    exact ⟨x, List.mem_of_getElem? h, by simp [hb]⟩
  simp [smallB, this]
set_option maxHeartbeats 2000000 in
theorem law_small (v : Value) (l : List StepD) (w : World) (hv : SlRep w v l) : Calls Tryd.prog 20 #[v] w (RetB w (.bool (smallB l))) := by
  obtain ⟨a, c, rfl, hs, _⟩ := hv.ex
  go_enter Tryd.func20, Tryd.ntmps20
  go_wp2
  go_loopw [3] (fun i wr => ∃ k : Nat, k ≤ l.length ∧ i = .int .i64 k ∧ (∀ j x, j < k → l[j]? = some x → stepFits x = true) ∧ Below w.heap.size w wr)
    (fun i _ => l.length - (intOf i).toNat)
  case atStart => exact ⟨0, Nat.zero_le _, rfl, by simp, Below.refl _ _⟩
  case round =>
    obtain ⟨k, hk, rfl, hall, hB⟩ := hrel
    by_cases hlt : k < l.length
    · obtain ⟨x, hx⟩ : ∃ x, l[k]? = some x := ⟨_, List.getElem?_eq_getElem hlt⟩
      obtain ⟨b, o, pa, pc, ca, cc, e1, q0, q1, q2, _, _⟩ := (hs.below hB).step hx
      subst e1
      have HX := Lib.hid hx; clear hx
      by_cases h1 : x.payload.length ≤ 31
      · by_cases h2 : x.choices.length ≤ 40
        · have t1 : ¬ (31 : Int) < x.payload.length := by omega
          have t2 : ¬ (40 : Int) < x.choices.length := by omega
          go_wp2
          go_roundw
          case rel => exact ⟨k + 1, by omega, by go_num, fun j y hj hy => by
            rcases Nat.lt_or_ge j k with h | h
            · exact hall j y h hy
            · obtain rfl : j = k := by omega
              have := HX.out.symm.trans hy; injection this with this; subst this
              simp [stepFits, h1, h2], hB⟩
          case measure => simp [intOf]; omega
        · have t1 : ¬ (31 : Int) < x.payload.length := by omega
          have t2 : (40 : Int) < x.choices.length := by omega
          go_wp2
          go_ret
          exact ⟨ret_bool (all_bad HX.out (by simp [stepFits, h2])).symm, hB⟩
      · have t1 : (31 : Int) < x.payload.length := by omega
        go_wp2
        go_ret
        exact ⟨ret_bool (all_bad HX.out (by simp [stepFits, h1])).symm, hB⟩
    · have hd := Lib.hid (all_done hall (by omega))
      go_wp2
      go_ret
      exact ⟨ret_bool (by rw [smallB, hd.out, Bool.true_and]; simp; omega), hB⟩
end Go.Proofs.YtnddgpkljpjjbaaDoor
