/- Contracts of dPage and dPoolPage: the page of an operation. -/
import Derived.Test.YtfdmmbalfjcehaaHd
namespace Go.Proofs.Ytfdmmbalfjcehaa
open Go.RowKit
set_option linter.unusedVariables false
set_option linter.unusedSimpArgs false
attribute [local go_sem] lt_more lt_more2 lt_more3 lt_more4 lt_more5 lt_more6 lt_more7 lt_more8

set_option maxHeartbeats 4000000 in
set_option maxRecDepth 100000 in
theorem page_any (w : World) (b : UInt8) :
    Calls Try.prog 28 #[bc b] w fun e w' => (∃ v', e = .returned v' ∧ ByB w' w.heap.size v' (List.replicate 32 b)) ∧ Below w.heap.size w w' := by
  obtain ⟨i0, hi, hz0, hz1, hz2⟩ := info_parts info5
  have HB := Lib.hid (Below.refl w.heap.size w)
  have t2 : ∀ u' ∈ [Value.int .u8 (b.toNat : Int)], u'.oneCell' = true := by intro u' hu'; simp at hu'; rcases hu' with rfl; rfl
  have T2 := Lib.hid t2
  clear t2
  unfold bc
  go_enter Try.func28, Try.ntmps28
  go_wp2
  go_loopw [3, 4] (fun v i wr => ∃ k : Nat, k ≤ 32 ∧ i = .int .i64 k ∧ Hid (wr.ownsRow w.heap.size 5 1 v k (List.replicate k (bc b))) ∧ Hid (Below w.heap.size w wr)) (fun _ i _ => 32 - (intOf i).toNat)
  case atStart => exact ⟨0, by omega, rfl, Lib.hid (World.ownsRow_nil _ _ _ _), HB⟩
  case round =>
    obtain ⟨k, hk, rfl, hown, hb⟩ := hrel
    clear HB
    have HB := hb
    clear hb
    obtain ⟨A1, c1, rfl⟩ := own_sl hown.out
    by_cases hlt : k < 32
    · have d1 : decide ((k : Int) < 32) = true := decide_eq_true (by omega)
      have t3 : k + 1 ≤ maxLen := by unfold maxLen; omega
      have t4 : (k + 1) * 1 ≤ 140737488355328 := by omega
      have t5 : w.heap.size ≤ (wr.alloc (.cells #[.int .u8 (b.toNat : Int)] 5)).heap.size := by have := HB.out.size; simp only [size_alloc2]; omega
      have T3 := Lib.hid t3
      have T4 := Lib.hid t4
      have T5 := Lib.hid t5
      clear t3 t4 t5
      go_wp2_with
        (at_builtin
         refine wpList_append_own _ rfl _ _ 27 rfl w.heap.size 5 i0 _ 1 1 Try.underlying27 hi hz0 hz1 hz2 rfl (by decide) _ _ _ rfl (hown.out.alloc _) ⟨wr.heap.size, 0, none⟩ 1 1 [.int .u8 (b.toNat : Int)] rfl rfl (newc wr _ 5) T2.out T3.out T4.out T5.out ?_
         intro v3 w3 hown3 hgrow3 hnil3
         obtain ⟨A3, c3, rfl⟩ := own_sl hown3
         have HO3 := Lib.hid hown3
         have HB3 := Lib.hid (Below.grown (B := w.heap.size) (a := w) (bA HB.out) hgrow3 T5.out (fun r hr => (hown.out.lt r hr).1))
         clear hown3 hgrow3 hnil3)
      go_roundw
      case rel =>
        refine ⟨k + 1, by omega, by go_num, Lib.hid ?_, HB3⟩
        have h5 := HO3.out
        rw [List.replicate_succ']
        exact h5
      case measure => simp [intOf]; omega
    · have d1 : decide ((k : Int) < 32) = false := decide_eq_false (by omega)
      have e : k = 32 := by omega
      subst e
      go_wp2
      go_ret
      refine ⟨⟨_, rfl, ?_⟩, HB.out⟩
      have h5 := hown.out
      unfold ByB
      rw [List.length_replicate, List.map_replicate]
      exact h5
end Go.Proofs.Ytfdmmbalfjcehaa
