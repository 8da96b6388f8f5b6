/- The encoding of runs, and the contract of compress.packRuns. -/
import Derived.Test.YtfdmmbalfjcehaaCb
namespace Go.Proofs.Ytfdmmbalfjcehaa
open Go.RowKit
set_option linter.unusedVariables false
set_option linter.unusedSimpArgs false
attribute [local go_sem] lt_more lt_more2 lt_more3 lt_more4 lt_more5 lt_more6 lt_more7 lt_more8

theorem size_alloc2 (w : World) (o : Obj) : (w.alloc o).heap.size = w.heap.size + 1 := by simp
theorem size_drewN2 (w : World) (n : Nat) : (w.drewN n).heap.size = w.heap.size := rfl
/-- How far the byte at i is repeated from i + n on, at most f bytes more. -/
def runExt (l : List UInt8) (i : Nat) : Nat → Nat → Nat
  | 0, n => n
  | f + 1, n => if i + n < l.length ∧ l[i + n]? = l[i]? then runExt l i f (n + 1) else n
def runOf (l : List UInt8) (i : Nat) : Nat := runExt l i 32 1
def runsFrom (l : List UInt8) : Nat → Nat → List UInt8
  | 0, _ => []
  | f + 1, i => if i < l.length then UInt8.ofNat (runOf l i) :: l.getD i 0 :: runsFrom l f (i + runOf l i) else []
def packRunsF (l : List UInt8) : List UInt8 := 1 :: runsFrom l 33 0

theorem runExt_bd (l : List UInt8) (i f n : Nat) (h : i + n ≤ l.length) : n ≤ runExt l i f n ∧ i + runExt l i f n ≤ l.length := by
  induction f generalizing n with
  | zero => exact ⟨Nat.le_refl _, h⟩
  | succ f ih =>
    unfold runExt
    split
    · rename_i h2; have := ih (n + 1) (by omega); omega
    · exact ⟨Nat.le_refl _, h⟩
theorem runOf_bd {l : List UInt8} {i : Nat} (h : i < l.length) : 1 ≤ runOf l i ∧ i + runOf l i ≤ l.length := runExt_bd l i 32 1 (by omega)
/-- One round of the inner loop. -/
theorem runExt_step {l : List UInt8} {i f n : Nat} (h1 : i + n < l.length) (h2 : l[i + n]? = l[i]?) : runExt l i (f + 1) n = runExt l i f (n + 1) := by
  rw [runExt, if_pos ⟨h1, h2⟩]
theorem runExt_end {l : List UInt8} {i f n : Nat} (h : ¬ (i + n < l.length ∧ l[i + n]? = l[i]?)) : runExt l i f n = n := by
  cases f with
  | zero => rfl
  | succ f => rw [runExt, if_neg h]

theorem info5 : (Try.prog.info? 5).map (fun i => (i.zero, i.size, i.bytes)) = some (some (.int .u8 0), 1, 1) := by kernel_rfl
theorem bytes_one (l : List UInt8) : ∀ u ∈ l.map bc, u.oneCell' = true := by
  intro u hu
  obtain ⟨x, _, rfl⟩ := List.mem_map.1 hu
  rfl

theorem newc (w : World) (l : List Value) (t : TypeId) : ∀ j u, l[j]? = some u → (w.alloc (.cells l.toArray t)).cell? ((⟨w.heap.size, 0, none⟩ : Addr).add j) = some u := fun j u hu => by
  rw [add_zero_add]
  exact (cell_of_row _ _ j _ t (0, 0) (heap_alloc_new w _)).trans (by simpa using hu)
theorem packRuns_step {l : List UInt8} {k n : Nat} {x : UInt8} {done : List UInt8} (hl : l.length = 32) (hk : k < 32) (hp : packRunsF l = done ++ runsFrom l (33 - k) k) (hn : runOf l k = n) (hx : l[k]? = some x) :
    packRunsF l = (done ++ [UInt8.ofNat n, x]) ++ runsFrom l (33 - (k + n)) (k + n) := by
  have key : ∀ f f' i, l.length < i + f → l.length < i + f' → runsFrom l f i = runsFrom l f' i := by
    intro f
    induction f with
    | zero => intro f' i h h'; cases f' with
      | zero => rfl
      | succ f' => rw [runsFrom, runsFrom, if_neg (by omega)]
    | succ f ih =>
      intro f' i h h'
      cases f' with
      | zero => rw [runsFrom, runsFrom, if_neg (by omega)]
      | succ f' =>
        rw [runsFrom, runsFrom]
        by_cases hi : i < l.length
        · have := (runOf_bd hi).1
          rw [if_pos hi, if_pos hi, ih f' (i + runOf l i) (by omega) (by omega)]
        · rw [if_neg hi, if_neg hi]
  have hkl : k < l.length := by omega
  have hb := runOf_bd hkl
  rw [hn] at hb
  rw [hp, show 33 - k = (32 - k) + 1 by omega, runsFrom, if_pos hkl, hn]
  rw [List.append_assoc]
  congr 1
  show UInt8.ofNat n :: l.getD k 0 :: _ = UInt8.ofNat n :: x :: _
  rw [show l.getD k 0 = x by rw [List.getD_eq_getElem?_getD, hx]; rfl, key (32 - k) (33 - (k + n)) (k + n) (by omega) (by omega)]
  rfl

set_option maxHeartbeats 8000000 in
set_option maxRecDepth 100000 in
theorem packRuns_any (w : World) (v : Value) (l : List UInt8) (hv : ByV w v l) (hl : l.length = 32) :
    Calls Try.prog 19 #[v] w fun e w' => (∃ v', e = .returned v' ∧ ByV w' v' (packRunsF l)) ∧ Below w.heap.size w w' := by
  obtain ⟨g, c, rfl, h1, h2, hg, hc⟩ := page_at hv (by omega)
  obtain ⟨i0, hi, hz0, hz1, hz2⟩ := info_parts info5
  have HB := Lib.hid (Below.refl w.heap.size w)
  rw [hl] at h1 ⊢
  have HC := Lib.hid hc
  have HL := Lib.hid hl
  have hbase : w.heap.size ≤ w.heap.size := Nat.le_refl _
  clear hv hc hl
  go_enter Try.func19, Try.ntmps19
  go_wp2
  go_loopw [3, 4] (fun out i wr => ∃ (k : Nat) (done : List UInt8), k ≤ 32 ∧ i = .int .i64 k ∧ wr.ownsRow w.heap.size 5 1 out done.length (done.map bc) ∧ done.length ≤ 1 + 2 * k ∧ Below w.heap.size w wr ∧ Hid (packRunsF l = done ++ runsFrom l (33 - k) k)) (fun _ i _ => 32 - (intOf i).toNat)
  case atStart =>
    refine ⟨0, [1], Nat.zero_le _, rfl, ?_, by simp, (by repeat (with_reducible first | exact HB.out | exact Below.refl _ _ | apply bA | apply bD | apply bN | refine bS ?_ (by first | assumption | (simp only []; omega) | omega))), Lib.hid rfl⟩
    exact World.ownsRow_lit w #[.int .u8 1] 1 (Nat.le_refl _) (by simp [maxLen]) rfl
  case round =>
    obtain ⟨k, done, hk, rfl, hown, hlen, hb, hp⟩ := hrel
    have HO := Lib.hid hown
    clear HB
    have HB := Lib.hid hb
    have hgr : g < wr.heap.size := Nat.lt_of_lt_of_le hg hb.size
    have hcr : Hid (∀ j u, l[j]? = some u → wr.cell? ⟨g, j, none⟩ = some (bc u)) := fun j u hu => (hb.cell (p := ⟨g, j, none⟩) hg).trans (HC.out j u hu)
    clear hown hb
    by_cases hlt : k < 32
    · obtain ⟨x, hx⟩ : ∃ x, l[k]? = some x := ⟨l[k]'(by have := HL.out; omega), List.getElem?_eq_getElem _⟩
      have HX := Lib.hid hx
      have hxc : wr.cell? ⟨g, k, none⟩ = some (.int .u8 (x.toNat : Int)) := hcr.out k x hx
      clear hx
      have dk : decide ((k : Int) < 32) = true := decide_eq_true (by omega)
      have xb := bc_hi x
      obtain ⟨wo, rfl⟩ : ∃ wo : World, wo = wr := ⟨_, rfl⟩
      go_wp2_with fail
      go_loopw [5] (fun s w2 => ∃ (n f q : Nat), 1 ≤ n ∧ k + n ≤ 32 ∧ n + f = 33 ∧ s = .int .i64 n ∧ w2 = wo.drewN q ∧ Hid (runOf l k = runExt l k f n)) (fun s _ => 33 - (intOf s).toNat)
      case atStart => exact ⟨1, 32, 0, Nat.le_refl _, by omega, rfl, rfl, rfl, Lib.hid rfl⟩
      case round =>
        obtain ⟨n, f, q, hn1, hn2, hnf, rfl, rfl, hre⟩ := hrel
        have HNF := Lib.hid hnf
        clear hnf
        have s1 : IntKind.i64.wrap ((k : Int) + n) = (k : Int) + n := IntWalk.i64_in _ (by omega)
        have s2 : (0 : Int) ≤ (k : Int) + n := by omega
        have s3 : ((k : Int) + n).toNat = k + n := by omega
        by_cases hin : k + n < 32
        · have s4 : (k : Int) + n < 32 := by omega
          have s5 : decide ((k : Int) + n < 32) = true := decide_eq_true s4
          obtain ⟨y, hy⟩ : ∃ y, l[k + n]? = some y := ⟨l[k + n]'(by have := HL.out; omega), List.getElem?_eq_getElem _⟩
          have hyc : wo.cell? ⟨g, k + n, none⟩ = some (.int .u8 (y.toNat : Int)) := hcr.out _ y hy
          have HY := Lib.hid hy
          clear hy
          by_cases hxy : y = x
          · have hb : ((y.toNat : Int) == (x.toNat : Int)) = true := by rw [hxy]; simp
            have HXY := Lib.hid hxy
            clear hxy
            go_wp2_with fail
            go_quiet (fail)
            clear s1 s3 s5
            go_wp2
            go_roundw
            case rel =>
              obtain ⟨f', rfl⟩ : ∃ f', f = f' + 1 := ⟨f - 1, by have := HNF.out; omega⟩
              exact ⟨n + 1, f', _, by omega, by omega, by have := HNF.out; omega, by go_num, rfl, Lib.hid (by rw [hre.out, runExt_step (by have := HL.out; omega) (by rw [HY.out, HXY.out, HX.out])])⟩
            case measure => simp [intOf]; omega
          · have hb : ((y.toNat : Int) == (x.toNat : Int)) = false := by
              simp only [beq_eq_false_iff_ne, ne_eq]
              intro h; exact hxy (UInt8.toNat_inj.1 (by omega))
            have HE := Lib.hid (show runOf l k = n by rw [hre.out]; exact runExt_end (fun h => hxy (by have := h.2; rw [HY.out, HX.out] at this; exact Option.some.inj this)))
            clear hxy
            go_wp2_with fail
            go_quiet (fail)
            clear s1 s3 s5
            go_wp2_with (at_builtin; refine wpList_append_own _ rfl _ _ 27 rfl w.heap.size 5 i0 _ 1 1 Try.underlying27 hi hz0 hz1 hz2 rfl (by decide) _ _ _ rfl (HO.out.alloc _) ⟨wo.heap.size, 0, none⟩ 2 2 [.int .u8 n, .int .u8 x.toNat] rfl rfl (newc wo _ 5) (by intro u hu; simp at hu; rcases hu with rfl | rfl <;> rfl) (by unfold maxLen; omega) (by omega) (by have := HB.out.size; simp only [size_alloc2, size_drewN2]; omega) ?_)
            intro v' w3 hown3 hgrow3 hnil3
            have HO3 := Lib.hid hown3
            have HB3 := Lib.hid (Below.grown (B := w.heap.size) (a := w) (by repeat (with_reducible first | exact HB.out | exact Below.refl _ _ | apply bA | apply bD | apply bN | refine bS ?_ (by first | assumption | (simp only []; omega) | omega))) hgrow3 (by have := HB.out.size; simp only [size_alloc2, size_drewN2]; omega) (fun r hr => (HO.out.lt r hr).1))
            clear HB hown3 hgrow3 hnil3
            have HB := HB3
            clear HB3
            go_wp2
            go_roundw
            case rel =>
              have hn0 : (UInt8.ofNat n).toNat = n := by rw [UInt8.toNat_ofNat']; omega
              refine ⟨k + n, done ++ [UInt8.ofNat n, x], by omega, by go_num, ?_, by simp; omega, (by repeat (with_reducible first | exact HB.out | exact Below.refl _ _ | apply bA | apply bD | apply bN | refine bS ?_ (by first | assumption | (simp only []; omega) | omega))), Lib.hid (packRuns_step HL.out hlt hp.out HE.out HX.out)⟩
              have e : (done ++ [UInt8.ofNat n, x]).map bc = done.map bc ++ [.int .u8 n, .int .u8 x.toNat] := by simp [bc, hn0]
              rw [e, List.length_append]
              exact HO3.out
            case measure => simp [intOf]; omega
        · have s4 : decide ((k : Int) + n < 32) = false := decide_eq_false (by omega)
          have HE := Lib.hid (show runOf l k = n by rw [hre.out]; exact runExt_end (fun h => by have := h.1; have := HL.out; omega))
          · go_wp2_with fail
            go_quiet (fail)
            clear s1 s3 s4
            go_wp2_with (at_builtin; refine wpList_append_own _ rfl _ _ 27 rfl w.heap.size 5 i0 _ 1 1 Try.underlying27 hi hz0 hz1 hz2 rfl (by decide) _ _ _ rfl (HO.out.alloc _) ⟨wo.heap.size, 0, none⟩ 2 2 [.int .u8 n, .int .u8 x.toNat] rfl rfl (newc wo _ 5) (by intro u hu; simp at hu; rcases hu with rfl | rfl <;> rfl) (by unfold maxLen; omega) (by omega) (by have := HB.out.size; simp only [size_alloc2, size_drewN2]; omega) ?_)
            intro v' w3 hown3 hgrow3 hnil3
            have HO3 := Lib.hid hown3
            have HB3 := Lib.hid (Below.grown (B := w.heap.size) (a := w) (by repeat (with_reducible first | exact HB.out | exact Below.refl _ _ | apply bA | apply bD | apply bN | refine bS ?_ (by first | assumption | (simp only []; omega) | omega))) hgrow3 (by have := HB.out.size; simp only [size_alloc2, size_drewN2]; omega) (fun r hr => (HO.out.lt r hr).1))
            clear HB hown3 hgrow3 hnil3
            have HB := HB3
            clear HB3
            go_wp2
            go_roundw
            case rel =>
              have hn0 : (UInt8.ofNat n).toNat = n := by rw [UInt8.toNat_ofNat']; omega
              refine ⟨k + n, done ++ [UInt8.ofNat n, x], by omega, by go_num, ?_, by simp; omega, (by repeat (with_reducible first | exact HB.out | exact Below.refl _ _ | apply bA | apply bD | apply bN | refine bS ?_ (by first | assumption | (simp only []; omega) | omega))), Lib.hid (packRuns_step HL.out hlt hp.out HE.out HX.out)⟩
              have e : (done ++ [UInt8.ofNat n, x]).map bc = done.map bc ++ [.int .u8 n, .int .u8 x.toNat] := by simp [bc, hn0]
              rw [e, List.length_append]
              exact HO3.out
            case measure => simp [intOf]; omega
    · go_wp2
      go_ret
      have e : k = 32 := by omega
      refine ⟨⟨_, rfl, ?_⟩, (by repeat (with_reducible first | exact HB.out | exact Below.refl _ _ | apply bA | apply bD | apply bN | refine bS ?_ (by first | assumption | (simp only []; omega) | omega)))⟩
      have : packRunsF l = done := by rw [hp.out, e, runsFrom, if_neg (by have := HL.out; omega), List.append_nil]
      rw [this]
      exact own_mono HO.out (Nat.zero_le _)
end Go.Proofs.Ytfdmmbalfjcehaa
