/- The superblock: what a copy says (the reference's parse). -/
import Derived.Test.YtnddgpkljpjjbaaDoorSup
namespace Go.Proofs.YtnddgpkljpjjbaaDoor
open Go.RowKit
set_option linter.unusedVariables false
set_option linter.unusedSimpArgs false
def Sec.dat (s : Sec) : List UInt8 := [s.b4, s.b5, s.b6, s.b7]
def datas (l : List Sec) : List UInt8 := l.flatMap Sec.dat
theorem datas_length (l : List Sec) : (datas l).length = 4 * l.length := by
  induction l with
  | nil => rfl
  | cons x xs ih => simp only [datas, List.flatMap_cons, List.length_append, Sec.dat, List.length_cons, List.length_nil] at *; omega
theorem datas_append (a b : List Sec) : datas (a ++ b) = datas a ++ datas b := by simp [datas]
/-- the length byte -/
def lenB (l : List Sec) : Nat := ((datas l).getD 0 0).toNat
def gen0 (l : List Sec) : Nat := (l.getD 0 Sec.zero).gen
def copyOk (l : List Sec) : Bool := l.all (fun s => s.gen == gen0 l) && decide (lenB l ≤ 31) && ((datas l).drop (lenB l + 1)).all (· == 0)
/-- the payload and the generation of a copy -/
def copyPay (l : List Sec) : List UInt8 := if copyOk l then ((datas l).drop 1).take (lenB l) else []
def copyGen (l : List Sec) : Nat := if copyOk l then gen0 l else 0
/-- Two results: a slice that reads as xs, and the number n. -/
def RetSlU {α : Type} [Rep α] (k : IntKind) (w : World) (xs : List α) (n : Int) (e : Ending) (w' : World) : Prop := ∃ v, e = .returned (.tuple #[v, .int k n]) ∧ SlRep w' v xs ∧ Below w.heap.size w w'
theorem dat_sl {w : World} {b o : Nat} {s : Sec} (h : SecAt w b o s) : SlRep w (.slice (some ⟨b, o + 4, none⟩) 4 4) s.dat := by
  obtain ⟨h0, h1, h2, h3, h4, h5, h6, h7⟩ := h
  refine ⟨_, 4, rfl, fun _ => ⟨b, o + 4, rfl, fun i x hx => ⟨[.int .u8 x.toNat], ?_, rfl⟩⟩, by simp [Sec.dat], by omega, fun h => by cases h⟩
  intro j u hu
  have hj : j = 0 := by
    rcases j with _ | j
    · rfl
    · simp at hu
  subst hj
  simp at hu; subst hu
  match i, hx with
  | 0, hx => simp [Sec.dat] at hx; subst hx; simpa [Rep.size] using h4
  | 1, hx => simp [Sec.dat] at hx; subst hx; simpa [Rep.size] using h5
  | 2, hx => simp [Sec.dat] at hx; subst hx; simpa [Rep.size] using h6
  | 3, hx => simp [Sec.dat] at hx; subst hx; simpa [Rep.size] using h7
  | i + 4, hx => simp [Sec.dat] at hx
theorem take_snoc {α : Type} (l : List α) (k : Nat) (x : α) (h : l[k]? = some x) : l.take (k + 1) = l.take k ++ [x] := by
  rw [List.take_add_one, h]; rfl
theorem copy_gens_bad (l : List Sec) (k : Nat) (s : Sec) (h : l[k]? = some s) (hb : s.gen ≠ gen0 l) : copyOk l = false := by
  rw [← Bool.not_eq_true]
  simp only [copyOk, Bool.and_eq_true, List.all_eq_true]
  rintro ⟨⟨h1, _⟩, _⟩
  exact hb (by simpa using h1 s (List.mem_of_getElem? h))
theorem ref12_Capacity (w : World) : Calls Tryd.prog 28 #[] w fun e w' => e = .returned (.int .i64 31) ∧ w = w' := by
  go_enter Tryd.func28, Tryd.ntmps28
  go_wp2
  go_ret
  exact ⟨rfl, rfl⟩
theorem copyOk_long (l : List Sec) (h : ¬ lenB l ≤ 31) : copyOk l = false := by simp [copyOk, h]
theorem copyOk_rest (l : List Sec) (k : Nat) (x : UInt8) (h : (datas l)[k]? = some x) (hk : lenB l + 1 ≤ k) (hx : x ≠ 0) : copyOk l = false := by
  rw [← Bool.not_eq_true]
  simp only [copyOk, Bool.and_eq_true, List.all_eq_true]
  rintro ⟨_, h1⟩
  have : ((datas l).drop (lenB l + 1))[k - (lenB l + 1)]? = some x := by rw [List.getElem?_drop, show lenB l + 1 + (k - (lenB l + 1)) = k from by omega]; exact h
  exact hx (by simpa using h1 x (List.mem_of_getElem? this))
theorem copyOk_yes (l : List Sec) (hg : ∀ (j : Nat) s, l[j]? = some s → s.gen = gen0 l) (hn : lenB l ≤ 31) (hz : ∀ (j : Nat) x, lenB l + 1 ≤ j → (datas l)[j]? = some x → x = 0) : copyOk l = true := by
  simp only [copyOk, Bool.and_eq_true, List.all_eq_true, decide_eq_true_eq]
  refine ⟨⟨fun s hs => ?_, hn⟩, fun x hx => ?_⟩
  · obtain ⟨j, hj⟩ := List.getElem?_of_mem hs
    simpa using hg j s hj
  · obtain ⟨j, hj⟩ := List.getElem?_of_mem hx
    rw [List.getElem?_drop] at hj
    simpa using hz _ x (by omega) hj
set_option maxRecDepth 100000 in
set_option maxHeartbeats 4000000 in
theorem ref12_parse (v : Value) (l : List Sec) (w : World) (hv : SlRep w v l) (h8 : l.length = 8) :
    Calls Tryd.prog 45 #[v] w (RetSlU .u32 w (copyPay l) (copyGen l)) := by
  obtain ⟨a, c, rfl, hs, hc1, hc2, _⟩ := hv.ex
  obtain ⟨s0, hs0⟩ : ∃ s, l[0]? = some s := ⟨_, List.getElem?_eq_getElem (by omega)⟩
  have hg0 : gen0 l = s0.gen := by simp [gen0, List.getD_eq_getElem?_getD, hs0]
  obtain ⟨b, o, rfl, q0, q1, q2, q3, q4, q5, q6, q7⟩ := hs.sec hs0
  simp only [Nat.zero_mul, Nat.add_zero] at q0 q1 q2 q3 q4 q5 q6 q7
  rw [h8]
  have H8 := Lib.hid h8; have HG := Lib.hid hg0; have HS := Lib.hid hs0; clear h8 hg0 hs0
  go_enter Tryd.func45, Tryd.ntmps45
  go_wp2_with (go_at_call 35; refine (ref12_Generation s0 _).mono ?_; rintro e w1 ⟨rfl, hb1⟩)
  clear q0 q1 q2 q3 q4 q5 q6 q7
  go_loopw [5, 6] (fun dv i wr => ∃ k : Nat, k ≤ 8 ∧ i = .int .i64 k ∧ Own w.heap.size 5 wr dv (datas (l.take k)) ∧ (∀ j s, j < k → l[j]? = some s → s.gen = s0.gen) ∧ Below w.heap.size w wr)
    (fun _ i _ => 8 - (intOf i).toNat)
  case atStart => exact ⟨0, by omega, rfl, Own.nil _ _ _, by simp, hb1⟩
  case round =>
    obtain ⟨k, hk, rfl, ho, hall, hB⟩ := hrel
    clear hb1
    by_cases hlt : k < 8
    · obtain ⟨s, hs'⟩ : ∃ s, l[k]? = some s := ⟨_, List.getElem?_eq_getElem (by rw [H8.out]; exact hlt)⟩
      have HK := Lib.hid hs'
      obtain ⟨b', o', he, hsec⟩ := (hs.below hB).sec hs'
      injection he with he
      injection he with e1 e2 _
      subst e1; subst e2
      have hsec0 := hsec
      obtain ⟨q0, q1, q2, q3, q4, q5, q6, q7⟩ := hsec
      have hdl := datas_length (l.take k)
      have hdl2 : (datas (l.take k)).length ≤ 32 := by rw [hdl]; have := List.length_take_le k l; omega
      clear hdl
      clear hs'
      by_cases hgs : s.gen = s0.gen
      · have hne : ((s.gen : Int) != (s0.gen : Int)) = false := by simp; omega
        go_wp2_with (first | (go_at_call 35; refine (ref12_Generation s _).mono ?_; rintro e w2 ⟨rfl, hb2⟩) | (at_builtin; go_must (refine wpList_append_Own (α := UInt8) rfl (.tmp 26) (.tmp 30) 22 5 rfl 1 elByte w.heap.size _ _ _ s.dat rfl (ho.below hb2) rfl (dat_sl (hsec0.below hb2)) (by simp [Sec.dat]; omega) (by simp [Sec.dat]; omega) (by have := hB.size; have := hb2.size; omega) ?_); intro v3 w3 ho3 hg3 hn3))
        have hB3 : Below w.heap.size w w3 := (below_step hB hb2).grown hg3 (by have := hB.size; have := hb2.size; omega) ho.base
        go_roundw
        case rel => exact ⟨k + 1, by omega, by go_num, by rw [take_snoc l k s HK.out, datas_append]; simpa [datas] using ho3, fun j t hj ht => by
              rcases Nat.lt_or_ge j k with h | h
              · exact hall j t h ht
              · obtain rfl : j = k := by omega
                rw [HK.out] at ht; injection ht with ht; subst ht; exact hgs, hB3⟩
        case measure => simp [intOf]; omega
      · have hne : ((s.gen : Int) != (s0.gen : Int)) = true := by simp; omega
        go_wp2_with (go_at_call 35; refine (ref12_Generation s _).mono ?_; rintro e w2 ⟨rfl, hb2⟩)
        go_ret2
        exact ⟨_, by rw [copyGen, copy_gens_bad l k s HK.out (by rw [HG.out]; exact hgs)]; rfl, by rw [copyPay, copy_gens_bad l k s HK.out (by rw [HG.out]; exact hgs)]; exact SlRep.nil _, below_step hB hb2⟩
    · obtain rfl : k = 8 := by omega
      have hD : datas (l.take 8) = datas l := by rw [List.take_of_length_le (by rw [H8.out]; omega)]
      have hDl : (datas l).length = 32 := by rw [datas_length, H8.out]
      rw [hD] at ho
      obtain ⟨g, cap, rfl, hg1, hg2, hg3, hg4⟩ := ho.shape (by rw [hDl]; omega)
      rw [hDl] at hg3 ho ⊢
      have hcell : ∀ i x, (datas l)[i]? = some x → wr.cell? ⟨g, i, none⟩ = some (.int .u8 x.toNat) := by
        intro i x hx
        obtain ⟨_, _, e, _⟩ := ho.sl.ex
        injection e with e1 e2 e3
        subst e1
        rename_i h3
        obtain ⟨b', o', e, h⟩ := h3.1.u8 hx
        injection e with e; injection e with e1 e2 _; subst e1; subst e2
        simpa using h
      obtain ⟨x0, hx0⟩ : ∃ x, (datas l)[0]? = some x := ⟨_, List.getElem?_eq_getElem (by omega)⟩
      have hn : lenB l = x0.toNat := by simp [lenB, List.getD_eq_getElem?_getD, hx0]
      have c0 := hcell 0 x0 hx0
      have hlt := u8_lt x0
      generalize x0.toNat = n at *
      have HN := Lib.hid hn; have HD := Lib.hid hDl; have HC := Lib.hid hcell
      clear hn hDl hD hcell
      by_cases h31 : n ≤ 31
      · go_wp2_with (go_at_call 28; refine (ref12_Capacity _).mono ?_; rintro e w2 ⟨rfl, rfl⟩)
        go_loop [8] (fun i => ∃ k : Nat, n + 1 ≤ k ∧ k ≤ 32 ∧ i = .int .i64 k ∧ (∀ j x, n + 1 ≤ j → j < k → (datas l)[j]? = some x → x = 0)) (fun i => 32 - (intOf i).toNat)
        case atStart => exact ⟨n + 1, Nat.le_refl _, by omega, by go_num, fun j x h1 h2 => by omega⟩
        case round =>
          obtain ⟨k, hk1, hk2, rfl, hz⟩ := hrel
          have HZ := Lib.hid hz; clear hz
          by_cases hk : k < 32
          · obtain ⟨x, hx⟩ : ∃ x, (datas l)[k]? = some x := ⟨_, List.getElem?_eq_getElem (by rw [HD.out]; exact hk)⟩
            have ck := HC.out k x hx
            have HX := Lib.hid hx; clear hx
            by_cases h0 : x = 0
            · have hb0 : ((x.toNat : Int) != 0) = false := by subst h0; rfl
              go_wp2
              go_round
              case rel => exact ⟨k + 1, by omega, by omega, by go_num, fun j y h1 h2 hy => by
                rcases Nat.lt_or_ge j k with h | h
                · exact HZ.out j y h1 h hy
                · obtain rfl : j = k := by omega
                  rw [HX.out] at hy; injection hy with hy; rw [← hy]; exact h0⟩
              case measure => simp [intOf]; omega
            · have hb0 : ((x.toNat : Int) != 0) = true := by
                rw [bne_iff_ne]; intro h; exact h0 (UInt8.toNat_inj.1 (by simpa using h))
              have hbad := copyOk_rest l k x HX.out (by rw [HN.out]; omega) h0
              go_wp2
              go_ret2
              exact ⟨_, by rw [copyGen, hbad]; rfl, by rw [copyPay, hbad]; exact SlRep.nil _, hB⟩
          · obtain rfl : k = 32 := by omega
            have hyes := copyOk_yes l (fun j s hs => by rw [HG.out]; exact hall j s (by have := (List.getElem?_eq_some_iff.1 hs).1; rw [H8.out] at this; exact this) hs) (by rw [HN.out]; exact h31)
              (fun j x h1 h2 => HZ.out j x (by rw [HN.out] at h1; exact h1) (by have := (List.getElem?_eq_some_iff.1 h2).1; rw [HD.out] at this; exact this) h2)
            have HY := Lib.hid hyes; clear hyes
            go_wp2
            go_ret2
            obtain ⟨_, _, e9, hsl, _⟩ := ho.sl.ex
            injection e9 with e9 _ _
            subst e9
            have hpl : (((datas l).drop 1).take n).length = n := by rw [List.length_take, List.length_drop, HD.out]; omega
            refine ⟨_, by rw [copyGen, if_pos HY.out, HG.out]; rfl, ?_, hB⟩
            rw [copyPay, if_pos HY.out, HN.out]
            exact ⟨_, cap - 1, by rw [hpl]; rfl, hsl.sub 1 n (by rw [HD.out]; omega) (fun _ => rfl), by omega, by omega, fun h => by cases h⟩
      · have hbad := copyOk_long l (by rw [HN.out]; exact h31)
        go_wp2_with (go_at_call 28; refine (ref12_Capacity _).mono ?_; rintro e w2 ⟨rfl, rfl⟩)
        go_ret2
        exact ⟨_, by rw [copyGen, hbad]; rfl, by rw [copyPay, hbad]; exact SlRep.nil _, hB⟩
end Go.Proofs.YtnddgpkljpjjbaaDoor
