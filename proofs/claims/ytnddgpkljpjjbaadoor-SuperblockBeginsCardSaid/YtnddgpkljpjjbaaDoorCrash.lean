/- disk.Crash. -/
import Derived.Test.YtnddgpkljpjjbaaDoorKeys
import Derived.Test.YtnddgpkljpjjbaaDoorDecide
import Derived.StillTailTactics
namespace Go.Proofs.YtnddgpkljpjjbaaDoor
open Go.RowKit Go.Maps
set_option linter.unusedVariables false
set_option linter.unusedSimpArgs false
def CrI (w w1 : World) (s c : Value) (d : Disk) (i : Value) (wr : World) : Prop :=
  ∃ (k : Nat) (D : DataW Value) (f : Int → Value), k ≤ d.cache.length ∧ i = .int .i64 k ∧ VMap (w1.heap.size + 1) w1.heap.size wr (d.cache.take k) D f ∧ wr.heap[w.heap.size]? = some (.cells #[s, c] 35 (0, 0)) ∧
    wr.heap[w.heap.size + 1]? = some (.cells #[.slice none 0 0, .slice none 0 0] 35 (0, 0)) ∧ Below w.heap.size w wr ∧ w1.heap.size < wr.heap.size
/-- a disk that a crash may leave: of each sector the stable version or one of those in the cache -/
def CrashOf (d : Disk) (out : List Sec) : Prop := out.length = d.stable.length ∧ ∀ (i : Nat) (s : Sec), out[i]? = some s → d.stable[i]? = some s ∨ ∃ x ∈ d.cache, x.at_ = i ∧ x.data = s
theorem CrashOf.start (d : Disk) : CrashOf d d.stable := ⟨rfl, fun i s h => .inl h⟩
theorem CrashOf.set {d : Disk} {out : List Sec} (h : CrashOf d out) (i : Nat) (s : Sec) (hs : s ∈ vers d.cache i) : CrashOf d (out.set i s) := by
  refine ⟨by rw [List.length_set]; exact h.1, fun j t ht => ?_⟩
  rw [List.getElem?_set] at ht
  split at ht
  · next e =>
    subst e
    split at ht
    · injection ht with ht
      subst ht
      obtain ⟨x, hx, e1, e2⟩ := vers_mem hs
      exact .inr ⟨x, hx, e1, e2⟩
    · cases ht
  · exact h.2 j t ht
def RetCrash (w : World) (d : Disk) (e : Ending) (w' : World) : Prop := ∃ (out : List Sec) (sv : Value) (lv : Value) (l : List Int), e = .returned (.tuple #[.agg #[sv, .slice none 0 0], lv]) ∧ CrashOf d out ∧ OwnDisk w.heap.size w' sv (.slice none 0 0) ⟨out, []⟩ ∧ SlRep w' lv l ∧ Below w.heap.size w w'
def CrJ (w w4 : World) (B : Nat) (d : Disk) (v2 : Value) (ss : List Int) (lv i : Value) (wx : World) : Prop :=
  ∃ (j : Nat) (l : List Int) (out : List Sec), j ≤ ss.length ∧ i = .int .i64 j ∧ SlRep w lv l ∧ (∀ x ∈ l, I64 x) ∧ l.length ≤ 1000000 ∧ Own B 57 wx v2 out ∧ CrashOf d out ∧ w4.grownBy wx v2.ownBlock ∧ Below w.heap.size w wx
set_option maxRecDepth 100000 in
set_option maxHeartbeats 4000000 in
theorem disk_Crash (v : Value) (d : Disk) (u : Value) (l : List Int) (w : World) (hd : DiskRep w v d) (hu : SlRep w u l) (hl : ∀ x ∈ l, I64 x) (hk : d.ok = true) (hc : d.cache.length ≤ 1000000) (hll : l.length ≤ 1000000) :
    Calls Tryd.prog 37 #[v, u] w (RetCrash w d) := by
  obtain ⟨_, _, rfl, h1, h2⟩ := hd.ex
  obtain ⟨sa, sc, rfl, hs, hs1, hs2, _⟩ := h1.ex
  obtain ⟨ca, cc, rfl, hcs, hc1, hc2, _⟩ := h2.ex
  clear h2
  obtain ⟨la, lc, rfl, hla⟩ := hu.ex
  have he := errNum_ok hk
  have hok := Disk.ok_get d hk
  go_enter Tryd.func37, Tryd.ntmps37
  go_wp2_with fail
  refine (disk_Check _ d _ (hd.below (below_alloc2 _ _ _))).mono ?_
  rw [he]
  rintro e w1 ⟨rfl, hb1⟩
  have ka := keepB hb1 (heap_alloc2_old w _ _)
  have kb := keepB hb1 (heap_alloc2_new w _ _)
  have hB1 : Below w.heap.size w w1 := below_step (below_alloc2 _ _ _) hb1
  have ec0 := cell_of_row w1 _ 0 _ _ _ ka
  have ec1 := cell_of_row w1 _ 1 _ _ _ ka
  have ef0 := frozen_of_row w1 _ 0 _ _ ka
  have ef1 := frozen_of_row w1 _ 1 _ _ ka
  simp at ec0 ec1
  obtain ⟨W2, hW2⟩ : ∃ W2, W2 = w1.alloc (.map #[] 0) := ⟨_, rfl⟩
  have hmm := @run_makeMap Tryd.prog 111 w1
  have hM2 := VMap.start w1 (w1.heap.size + 1) rfl
  have hba2 := below_alloc w1 (.map #[] 0)
  have hz2 : w1.heap.size < (w1.alloc (.map #[] 0)).heap.size := by simp
  rw [← hW2] at hmm hM2 hba2 hz2
  clear hW2
  have ka2 := keepB hba2 ka
  have kb2 := keepB hba2 kb
  have fc0 := cell_of_row W2 _ 0 _ _ _ ka2
  have fc1 := cell_of_row W2 _ 1 _ _ _ ka2
  have ff0 := frozen_of_row W2 _ 0 _ _ ka2
  have ff1 := frozen_of_row W2 _ 1 _ _ ka2
  simp at fc0 fc1
  have HKA := Lib.hid ka2; have HKB := Lib.hid kb2; clear ka kb ka2 kb2
  go_wp2
  have hz1 : w.heap.size + 1 < w1.heap.size := by have := hb1.size; simp at this; omega
  have hB2 : Below w.heap.size w W2 := below_step hB1 hba2
  clear ec0 ec1 ef0 ef1 fc0 fc1 ff0 ff1
  go_loopw [23] (fun i wr => CrI w w1 (.slice sa d.stable.length sc) (.slice ca d.cache.length cc) d i wr)
    (fun i _ => d.cache.length - (intOf i).toNat)
  case atStart => exact ⟨0, _, _, Nat.zero_le _, rfl, hM2, HKA.out, HKB.out, hB2, hz2⟩
  case round =>
    obtain ⟨k, D, f, hkl, rfl, hV, ka, kb, hBr, hzr⟩ := hrel
    clear hM2 hmm
    by_cases hlt : k < d.cache.length
    · obtain ⟨x, hx⟩ : ∃ x, d.cache[k]? = some x := ⟨_, List.getElem?_eq_getElem hlt⟩
      obtain ⟨b, o, e1, q0, q1, q2, q3, q4, q5, q6, q7, q8⟩ := (hcs.below hBr).cached hx
      subst e1
      have hin := hok.2 k x hx
      have HX := Lib.hid hx; clear hx
      have hba := below_alloc wr (.cells #[.int .i64 x.at_, .int .u8 x.data.b0.toNat, .int .u8 x.data.b1.toNat, .int .u8 x.data.b2.toNat, .int .u8 x.data.b3.toNat, .int .u8 x.data.b4.toNat, .int .u8 x.data.b5.toNat, .int .u8 x.data.b6.toNat, .int .u8 x.data.b7.toNat] 109)
      have kx := heap_alloc_new wr (.cells #[.int .i64 x.at_, .int .u8 x.data.b0.toNat, .int .u8 x.data.b1.toNat, .int .u8 x.data.b2.toNat, .int .u8 x.data.b3.toNat, .int .u8 x.data.b4.toNat, .int .u8 x.data.b5.toNat, .int .u8 x.data.b6.toNat, .int .u8 x.data.b7.toNat] 109)
      have HKA3 := Lib.hid ka; have HKB3 := Lib.hid kb; clear ka kb
      go_wp2
      clear q0 q1 q2 q3 q4 q5 q6 q7 q8
      have hzx : wr.heap.size < (wr.alloc (.cells #[.int .i64 x.at_, .int .u8 x.data.b0.toNat, .int .u8 x.data.b1.toNat, .int .u8 x.data.b2.toNat, .int .u8 x.data.b3.toNat, .int .u8 x.data.b4.toNat, .int .u8 x.data.b5.toNat, .int .u8 x.data.b6.toNat, .int .u8 x.data.b7.toNat] 109)).heap.size := by simp
      generalize wr.alloc (.cells #[.int .i64 x.at_, .int .u8 x.data.b0.toNat, .int .u8 x.data.b1.toNat, .int .u8 x.data.b2.toNat, .int .u8 x.data.b3.toNat, .int .u8 x.data.b4.toNat, .int .u8 x.data.b5.toNat, .int .u8 x.data.b6.toNat, .int .u8 x.data.b7.toNat] 109) = W3 at *
      have sc0 := cell_of_row W3 _ 0 _ _ _ kx
      have sc1 := cell_of_row W3 _ 1 _ _ _ kx
      have sc2 := cell_of_row W3 _ 2 _ _ _ kx
      have sc3 := cell_of_row W3 _ 3 _ _ _ kx
      have sc4 := cell_of_row W3 _ 4 _ _ _ kx
      have sc5 := cell_of_row W3 _ 5 _ _ _ kx
      have sc6 := cell_of_row W3 _ 6 _ _ _ kx
      have sc7 := cell_of_row W3 _ 7 _ _ _ kx
      have sc8 := cell_of_row W3 _ 8 _ _ _ kx
      have sf0 := frozen_of_row W3 _ 0 _ _ kx
      have sf1 := frozen_of_row W3 _ 1 _ _ kx
      have sf2 := frozen_of_row W3 _ 2 _ _ kx
      have sf3 := frozen_of_row W3 _ 3 _ _ kx
      have sf4 := frozen_of_row W3 _ 4 _ _ kx
      have sf5 := frozen_of_row W3 _ 5 _ _ kx
      have sf6 := frozen_of_row W3 _ 6 _ _ kx
      have sf7 := frozen_of_row W3 _ 7 _ _ kx
      have sf8 := frozen_of_row W3 _ 8 _ _ kx
      simp at sc0 sc1 sc2 sc3 sc4 sc5 sc6 sc7 sc8
      have hix : -9223372036854775808 ≤ x.at_ ∧ x.at_ ≤ 9223372036854775807 := by omega
      have hV3 : VMap (w1.heap.size + 1) w1.heap.size W3.drew (d.cache.take k) D f := (hV.below hba).below (below_drew W3)
      have hV4 := ((hV.below hba).below (below_alloc W3 (.cells #[.int .u8 x.data.b0.toNat, .int .u8 x.data.b1.toNat, .int .u8 x.data.b2.toNat, .int .u8 x.data.b3.toNat, .int .u8 x.data.b4.toNat, .int .u8 x.data.b5.toNat, .int .u8 x.data.b6.toNat, .int .u8 x.data.b7.toNat] 57))).below (below_drew _)
      have hlk1 := hV3.look x.at_ hix
      have hlk2 := hV4.look x.at_ hix
      have hct : (d.cache.take k).length ≤ 1000000 := by rw [List.length_take]; omega
      obtain ⟨v5, w5, hap, ho5, hg5, hl5⟩ := run_append_sec 32 (f x.at_) _ x.data W3.heap.size (hV4.sl x.at_) (box_sec W3 x.data 57) (Nat.le_trans (vers_length _ _) hct) (by simp; omega)
      obtain ⟨w6, hup, hV6, hg6⟩ := hV4.put x hix v5 hg5 ho5 hl5 (by simp; omega) (by simp [maxLen]; omega)
      obtain ⟨fa, fn, fc, hfe⟩ := own_slice (hV3.sl x.at_)
      obtain ⟨va, vn, vc, hve⟩ := own_slice ho5
      have kx4 := keepB (below_drew _) (keepB (below_alloc W3 (.cells #[.int .u8 x.data.b0.toNat, .int .u8 x.data.b1.toNat, .int .u8 x.data.b2.toNat, .int .u8 x.data.b3.toNat, .int .u8 x.data.b4.toNat, .int .u8 x.data.b5.toNat, .int .u8 x.data.b6.toNat, .int .u8 x.data.b7.toNat] 57)) kx)
      have kx5 := keepG hg5 kx4 (fun e => (hV4.sl x.at_).other_type kx4 (by decide) e.symm)
      have yc0 := cell_of_row w5 _ 0 _ _ _ kx5
      have yf0 := frozen_of_row w5 _ 0 _ _ kx5
      simp at yc0
      have HG5 := Lib.hid hg5; clear hg5 kx4 kx5
      have HV6 := Lib.hid hV6; clear hV6
      have HV3 := Lib.hid hV3; have HV4 := Lib.hid hV4; clear hV3 hV4 hV
      clear hl5 ho5
      subst hve
      rw [hfe] at hlk1 hlk2 hap
      have HFE := Lib.hid hfe; clear hfe
      apply wp_join w6
      case h =>
        go_region_law (refine step_append_run rfl (.tmp 33) (.tmp 36) 32 rfl (.slice fa fn fc) (.slice (some ⟨W3.heap.size, 0, none⟩) 1 1) (.slice va vn vc) w5 rfl rfl hap ?_)
        all_goals exact ⟨rfl, rfl⟩
      case hq =>
        go_wp2
        go_roundw
        case rel =>
          have k5 : ∀ {j : Nat} {cs : Array Value}, wr.heap[j]? = some (.cells cs 35 (0, 0)) → j < w1.heap.size → w6.heap[j]? = some (.cells cs 35 (0, 0)) := fun {j cs} hj hjl =>
            keepG hg6 (keepG HG5.out (keepB (below_drew _) (keepB (below_alloc W3 _) (keepB hba hj))) (fun e => (HV4.out.sl x.at_).other_type (keepB (below_drew _) (keepB (below_alloc W3 _) (keepB hba hj))) (by decide) e.symm)) (fun e => by injection e with e; omega)
          have hBd : Below w.heap.size w (W3.alloc (.cells #[.int .u8 x.data.b0.toNat, .int .u8 x.data.b1.toNat, .int .u8 x.data.b2.toNat, .int .u8 x.data.b3.toNat, .int .u8 x.data.b4.toNat, .int .u8 x.data.b5.toNat, .int .u8 x.data.b6.toNat, .int .u8 x.data.b7.toNat] 57)).drew := below_step (below_step (below_step hBr hba) (below_alloc W3 _)) (below_drew _)
          have hB5 : Below w.heap.size w w5 := hBd.grown HG5.out hBd.size (fun q hq => by have := (HV4.out.sl x.at_).base q hq; omega)
          have hB6 : Below w.heap.size w w6 := hB5.grown hg6 hB5.size (fun q hq => by injection hq with hq; omega)
          have hs5 := HG5.out.size
          have hs6 := hg6.size
          have hV6 := HV6.out
          rw [← take_snoc _ k x HX.out] at hV6
          exact ⟨k + 1, _, _, by omega, by go_num, hV6, k5 HKA3.out (by omega), k5 HKB3.out (by omega), hB6, by simp at hs5; omega⟩
        case measure => simp [intOf]; omega
    · obtain rfl : k = d.cache.length := by omega
      rw [List.take_length] at hV
      obtain ⟨wq, hwq⟩ : ∃ wq, wq = wr := ⟨_, rfl⟩
      subst hwq
      have gc0 := cell_of_row wq _ 0 _ _ _ ka
      have gc1 := cell_of_row wq _ 1 _ _ _ ka
      have gf0 := frozen_of_row wq _ 0 _ _ ka
      have gf1 := frozen_of_row wq _ 1 _ _ ka
      simp at gc0 gc1
      have HKA3 := Lib.hid ka; have HKB3 := Lib.hid kb; clear ka kb
      have hz2' := hBr.size
      go_wp2_with (first
        | (go_at_call 48; refine (clone_sec _ d.stable _ (h1.below hBr) (by omega)).mono ?_; rintro e w2 ⟨v2, rfl, ho2, hb2⟩; obtain ⟨a2, n2, rfl, _⟩ := ho2.sl.ex)
        | (go_at_call 50; refine (keys_call _ _).mono ?_; rintro e w3 ⟨rfl, rfl⟩)
        | (go_at_call 49; refine (sorted_call (bm := w2.heap.size + 1) (hV.below (by repeat' (first | exact Below.refl _ _ | exact below_drew _ | exact below_alloc _ _ | (refine below_step ?_ (by assumption)) | (refine below_step ?_ (below_alloc _ _)) | (refine below_step ?_ (below_drew _))))) (by simp) (by simp [go_sem]) hc).mono ?_; rintro e w4 ⟨v3, ss, rfl, ho3, hmem, hb4⟩; obtain ⟨a3, n3, rfl, _⟩ := ho3.sl.ex)
        | fail)
      have kt := keepB hb4 (keepB (below_alloc _ _) (heap_alloc_new w2 (.cells #[.slice a2 d.stable.length n2, .slice none 0 0] 35)))
      have hB24 : Below w2.heap.size w2 w4 := below_step (below_alloc2 _ _ _) hb4
      have hV4 := hV.below (below_step hb2 hB24)
      have ho4 := ho2.below hB24
      have hBw4 : Below w.heap.size w w4 := below_step (below_step hBr hb2) hB24
      have hap := own_apart ho3 ho4 (by decide)
      have hfl : ∀ (i : Int) (g : Nat), (f i).ownBlock = some g → g < wq.heap.size := fun i g hg => by
        obtain ⟨css, _, _, ho⟩ := (hV.sl i).ex
        exact (ho.lt g hg).2
      have hz24 := hB24.size
      have hzr2 := hb2.size
      have HKT := Lib.hid kt; have HV4 := Lib.hid hV4; have HAP := Lib.hid hap; have HFL := Lib.hid hfl; have HMEM := Lib.hid hmem
      have kb4 := keepB (below_step hb2 hB24) HKB3.out
      have HKB4 := Lib.hid kb4
      clear kt hV4 hap hfl hV hmem hb4 hb1 hb2 hba2 kb4 gc0 gc1 gf0 gf1
      have ht2 : w2.heap.size < w4.heap.size := (Array.getElem?_eq_some_iff.1 HKT.out).1
      go_loopw [10, 48] (fun lv i wx => CrJ w w4 wq.heap.size d (.slice a2 d.stable.length n2) ss lv i wx)
        (fun _ i _ => ss.length - (intOf i).toNat)
      case atStart => exact ⟨0, l, d.stable, Nat.zero_le _, rfl, hu, hl, hll, ho4, CrashOf.start d, World.grownBy.refl _ _, hBw4⟩
      case round =>
        obtain ⟨j, lj, out, hj, rfl, hlj, hlI, hlL, hoj, hcr, hG, hBx⟩ := hrel
        obtain ⟨lja, ljc, rfl, _⟩ := hlj.ex
        have kt := keepG hG HKT.out (fun e => ho4.other_type HKT.out (by decide) e.symm)
        have tc0 := cell_of_row wr _ 0 _ _ _ kt
        have tc1 := cell_of_row wr _ 1 _ _ _ kt
        have tf0 := frozen_of_row wr _ 0 _ _ kt
        have tf1 := frozen_of_row wr _ 1 _ _ kt
        simp at tc0 tc1
        have HKTx := Lib.hid kt; clear kt
        by_cases hlt : j < ss.length
        · obtain ⟨s, hs'⟩ : ∃ s, ss[j]? = some s := ⟨_, List.getElem?_eq_getElem hlt⟩
          obtain ⟨x, hx, hxs⟩ := HMEM.out s (List.mem_of_getElem? hs')
          obtain ⟨ix, hix⟩ := List.getElem?_of_mem hx
          have hsr := hok.2 ix x hix
          rw [hxs] at hsr
          clear hix hx hxs
          obtain ⟨p, rfl⟩ : ∃ p : Nat, s = p := ⟨s.toNat, by omega⟩
          obtain ⟨g2, cap2, he2, hg21, hg22, hg23, hg24⟩ := hoj.shape (by rw [hcr.1]; omega)
          rw [hcr.1] at he2
          injection he2 with he2 _ he2'
          subst he2 he2'
          obtain ⟨b3, o3, e3, q3⟩ := (ho3.grown hG HAP.out).slat.int hs'
          subst e3
          have hVx := HV4.out.kept hG (fun g hg => by
            have hg : g2 = g := by simpa [Value.ownBlock] using hg
            subst hg
            exact ⟨by omega, fun i e => by have := HFL.out i _ e; omega⟩)
          have hlk := hVx.look p (by omega)
          obtain ⟨fa, fc, hfe, _⟩ := (hVx.sl p).sl.ex
          have hvl := vers_length d.cache p
          obtain ⟨m, hm⟩ : ∃ m, m = (vers d.cache p).length := ⟨_, rfl⟩
          rw [← hm] at hfe hvl
          rw [hfe] at hlk
          have hdec : ∀ w', Below wr.heap.size wr w' → Calls Tryd.prog 51 #[.slice lja lj.length ljc, .int .i64 ((m : Int) + 1)] w' (RetDecide w' (.slice lja lj.length ljc) lj (m + 1)) := fun w' hw' => by
            have := disk_decide _ lj (m + 1) w' (hlj.below (below_step hBx hw')) hlI (by omega) (by omega)
            simpa using this
          have hwm : IntKind.i64.wrap ((m : Int) + 1) = (m : Int) + 1 := IntWalk.i64_in _ (by omega)
          have HVX := Lib.hid hVx; have HM := Lib.hid hm; have HFE := Lib.hid hfe; clear hVx hm hfe hs'
          go_wp2_with (first
            | (go_at_call 51; refine (hdec _ (Below.refl _ _)).mono ?_; rintro e w5 ⟨kk, lv', l', rfl, hkk, hl', hlI', hlL', hb5⟩; obtain ⟨l5a, l5c, rfl, _⟩ := (hl' _ hlj).ex)
            | fail)
          · obtain ⟨q, rfl⟩ : ∃ q, kk = q + 1 := ⟨kk - 1, by omega⟩
            obtain ⟨t, ht⟩ : ∃ t, (vers d.cache p)[q]? = some t := ⟨_, List.getElem?_eq_getElem (by rw [← HM.out]; omega)⟩
            have hV5 : VMap (w1.heap.size + 1) w1.heap.size w5.drew d.cache D f := (HVX.out.below hb5).below (below_drew w5)
            have hsl5 := hV5.sl p
            rw [HFE.out] at hsl5
            obtain ⟨b6, o6, e6, q0, q1, q2, q3, q4, q5, q6, q7⟩ := hsl5.slat.sec ht
            subst e6
            have hlk5 := hV5.look p (by omega)
            rw [HFE.out] at hlk5
            have kt5 := keepB hb5 HKTx.out
            have sc0 := cell_of_row w5 _ 0 _ _ _ kt5
            have sc1 := cell_of_row w5 _ 1 _ _ _ kt5
            have sf0 := frozen_of_row w5 _ 0 _ _ kt5
            have sf1 := frozen_of_row w5 _ 1 _ _ kt5
            simp at sc0 sc1
            have hq1 : IntKind.i64.wrap (((q + 1 : Nat) : Int) - 1) = (q : Int) := by rw [show ((q + 1 : Nat) : Int) - 1 = (q : Int) from by omega]; exact IntWalk.i64_in _ (by omega)
            have hq2 : IntKind.i64.wrap (q : Int) = (q : Int) := IntWalk.i64_in _ (by omega)
            have hq3 : IntKind.i64.wrap ((q : Int) + 1 - 1) = (q : Int) := by rw [show (q : Int) + 1 - 1 = (q : Int) from by omega]; exact hq2
            have hqm : q < m := by omega
            have hqm' : (q : Int) < (m : Int) := by omega
            have HT := Lib.hid ht; clear ht hV5 hsl5 kt5
            have hlk6 : Sem.run Tryd.prog (Instr.lookup 111 (.map (some w1.heap.size)) (.int .i64 p) false) { heap := w5.heap, tape := w5.tape, drawn := w5.drawn + 1, os := w5.os, output := w5.output } = .ok (.slice (some ⟨b6, o6, none⟩) m fc) { heap := w5.heap, tape := w5.tape, drawn := w5.drawn + 1, os := w5.os, output := w5.output } := hlk5
            go_still_tail 11, (by kernel_rfl)
            refine wpList_store_Own (α := Sec) (by rfl) 57 (.tmp 74) (.tmp 73) (by rfl) szSec wq.heap.size 57 g2 p _ d.stable.length n2 out t _ ((hoj.below hb5).below (below_drew w5)) (by rfl) (by rfl) (by rfl) (by rw [hcr.1]; omega) (by rfl) ?_
            intro w6 ho6 hg6
            go_wp2
            go_roundw
            case rel => exact ⟨j + 1, l', out.set p t, by omega, by go_num, hl' _ hlj, hlI', by omega, ho6, hcr.set p t (List.mem_of_getElem? HT.out), ((hG.trans (grown_of_below hb5 _)).trans (grown_of_below (below_drew w5) _)).trans hg6, ((below_step hBx hb5).drew).grown hg6 (by have := hBx.size; have := hb5.size; exact Nat.le_trans ‹_› ‹_›) (fun q hq => by injection hq with hq; omega)⟩
            case measure => simp [intOf]; omega
          · have hk0 : kk = 0 := by omega
            exact ⟨⟨j + 1, l', out, by omega, by go_num, hl' _ hlj, hlI', by omega, hoj.below hb5, hcr, hG.trans (grown_of_below hb5 _), below_step hBx hb5⟩, by simp [intOf]; omega⟩
        · obtain rfl : j = ss.length := by omega
          have kr := keepG hG HKB4.out (fun e => ho4.other_type HKB4.out (by decide) e.symm)
          have rc0 := cell_of_row wr _ 0 _ _ _ kr
          have rc1 := cell_of_row wr _ 1 _ _ _ kr
          have rf0 := frozen_of_row wr _ 0 _ _ kr
          have rf1 := frozen_of_row wr _ 1 _ _ kr
          simp at rc0 rc1
          have HKR := Lib.hid (show wr.drew.heap[w.heap.size + 1]? = _ from kr); clear kr
          have hzt : w.heap.size + 1 ≠ w2.heap.size := by omega
          have hzt2 : w2.heap.size ≠ w.heap.size + 1 := by omega
          have hBd : Below w.heap.size w wr.drew := below_step hBx (below_drew wr)
          have hBs : ∀ a b, Below w.heap.size w ((wr.drew.setCell ⟨w.heap.size + 1, 0, none⟩ a).setCell ⟨w.heap.size + 1, 1, none⟩ b) := fun a b => (hBd.setCell (p := ⟨w.heap.size + 1, 0, none⟩) (by simp) a).setCell (p := ⟨w.heap.size + 1, 1, none⟩) (by simp) b
          go_wp2
          go_region_with (first
            | (go_at_call 52; refine (clone_int _ lj _ (hlj.below (by first | exact hBd | exact hBs _ _)) (by omega)).mono ?_; rintro e w3 ⟨v3', rfl, ho3', hb3⟩; obtain ⟨c3a, c3n, rfl, _⟩ := ho3'.sl.ex; first | (have kr3 := keepB hb3 HKR.out; have kt3 := keepB hb3 (show wr.drew.heap[w2.heap.size]? = _ from HKTx.out); have zc0 := cell_of_row w3 _ 0 _ _ _ kr3; have zc1 := cell_of_row w3 _ 1 _ _ _ kr3; have zf0 := frozen_of_row w3 _ 0 _ _ kr3; have zf1 := frozen_of_row w3 _ 1 _ _ kr3; simp at zc0 zc1; have yc0 := cell_of_row w3 _ 0 _ _ _ kt3; have yc1 := cell_of_row w3 _ 1 _ _ _ kt3; have yf0 := frozen_of_row w3 _ 0 _ _ kt3; have yf1 := frozen_of_row w3 _ 1 _ _ kt3; simp at yc0 yc1) | (have kr3 := keepB hb3 (heap_two1 (heap_two0 HKR.out)); have zc0 := cell_of_row w3 _ 0 _ _ _ kr3; have zc1 := cell_of_row w3 _ 1 _ _ _ kr3; have zf0 := frozen_of_row w3 _ 0 _ _ kr3; have zf1 := frozen_of_row w3 _ 1 _ _ kr3; simp at zc0 zc1)))
          all_goals
            go_wp2
            refine bodyPost_ret (v := .tuple #[.agg #[.slice a2 d.stable.length n2, .slice none 0 0], .slice c3a lj.length c3n]) (by simp [results, Tryd.results37, go_sem, zc0, zc1, (Array.getElem?_eq_some_iff.1 kr3).1]) rfl ?_
            have hB3 : Below w.heap.size w w3 := below_step hBd hb3
            have hoF : Own wq.heap.size 57 w3 (.slice a2 d.stable.length n2) out := (hoj.below (below_drew wr)).below hb3
            have hlq : w.heap.size + 1 < wr.drew.heap.size := (Array.getElem?_eq_some_iff.1 HKR.out).1
            exact ⟨out, _, _, lj, rfl, hcr, ⟨hoF.sets (B' := w.heap.size) (by omega) (by omega), Own.nil _ _ _⟩, (ho3'.sets (B' := w.heap.size) hlq (by omega)).sl, (hB3.setCell (p := ⟨w.heap.size + 1, 0, none⟩) (by simp) _).setCell (p := ⟨w.heap.size + 1, 1, none⟩) (by simp) _⟩
end Go.Proofs.YtnddgpkljpjjbaaDoor
