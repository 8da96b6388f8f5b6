/- Contracts of the small functions of package pool. -/
import Derived.Test.YtfdmmbalfjcehaaWd
import Derived.Lib.Hide
namespace Go.Proofs.Ytfdmmbalfjcehaa
open Go.RowKit
set_option linter.unusedVariables false

theorem ret_int {k : IntKind} {a b : Int} (h : a = b) : Ending.returned (.int k a) = .returned (.int k b) := by rw [h]
theorem ret_bool {a b : Bool} (h : a = b) : Ending.returned (.bool a) = .returned (.bool b) := by rw [h]

theorem rest_any (w : World) (f s0 s1 : Int) (A0 A1 : Option Addr) (n0 c0 n1 c1 : Nat) (h0 : n0 ≤ 1000) (h1 : n1 ≤ 1000) :
    Calls Try.prog 22 #[.agg #[.int .i64 f, .int .i64 s0, .slice A0 n0 c0, .int .i64 s1, .slice A1 n1 c1]] w fun e w' =>
      e = .returned (.int .i64 (32 - n0 - n1)) ∧ w.alloc (.cells #[.int .i64 f, .int .i64 s0, .slice A0 n0 c0, .int .i64 s1, .slice A1 n1 c1] 55) = w' := by
  go_enter Try.func22, Try.ntmps22
  go_wp2
  go_ret
  exact ⟨rfl, rfl⟩

def absB (s0 : Int) (n0 : Nat) : Bool := s0 == -1 && n0 == 0
theorem absent_any (w : World) (s0 : Int) (A0 : Option Addr) (n0 c0 : Nat)  :
    Calls Try.prog 23 #[.agg #[.int .i64 s0, .slice A0 n0 c0]] w fun e w' =>
      e = .returned (.bool (absB s0 n0)) ∧ w.alloc (.cells #[.int .i64 s0, .slice A0 n0 c0] 52) = w' := by
  go_enter Try.func23, Try.ntmps23
  go_wp2
  all_goals
    go_ret
  · rename_i h; subst h; refine ⟨ret_bool ?_, rfl⟩; rw [Bool.eq_iff_iff]; simp [absB]
  · rename_i h; refine ⟨ret_bool ?_, rfl⟩; simp [absB, h]

def itemB (s0 : Int) (n0 : Nat) : Bool := decide (0 ≤ s0 ∧ s0 < 64 ∧ 1 ≤ n0 ∧ n0 ≤ 32)
theorem item_any (w : World) (s0 : Int) (A0 : Option Addr) (n0 c0 : Nat)  :
    Calls Try.prog 53 #[.agg #[.int .i64 s0, .slice A0 n0 c0]] w fun e w' =>
      e = .returned (.bool (itemB s0 n0)) ∧ w.alloc (.cells #[.int .i64 s0, .slice A0 n0 c0] 52) = w' := by
  go_enter Try.func53, Try.ntmps53
  go_wp2
  all_goals
    go_ret
    refine ⟨ret_bool ?_, rfl⟩
    rw [Bool.eq_iff_iff]
    simp [itemB]
    try omega

/-! the frame of a walk: what lay below the call stays; what a callee leaves -/
theorem bc3 {W w1 : World} (hb : Below W.heap.size W w1) : (∀ b o, b < W.heap.size → w1.cell? ⟨b, o, none⟩ = W.cell? ⟨b, o, none⟩) ∧ (∀ b o, b < W.heap.size → w1.frozen? ⟨b, o, none⟩ = W.frozen? ⟨b, o, none⟩) ∧ (∀ b, b < W.heap.size → b < w1.heap.size) :=
  ⟨fun b o h => hb.cell (p := ⟨b, o, none⟩) h, fun b o h => hb.frozen (p := ⟨b, o, none⟩) h, fun b h => Nat.lt_of_lt_of_le h hb.size⟩
theorem lt_more (a b : Nat) (h : a < b) : a < b + 1 := by omega
theorem lt_more2 (a b : Nat) (h : a < b) : a < b + 1 + 1 := by omega
theorem lt_more3 (a b : Nat) (h : a < b) : a < b + 1 + 1 + 1 := by omega
theorem lt_more4 (a b : Nat) (h : a < b) : a < b + 1 + 1 + 1 + 1 := by omega
theorem lt_more5 (a b : Nat) (h : a < b) : a < b + 1 + 1 + 1 + 1 + 1 := by omega
theorem lt_more6 (a b : Nat) (h : a < b) : a < b + 1 + 1 + 1 + 1 + 1 + 1 := by omega
theorem lt_more7 (a b : Nat) (h : a < b) : a < b + 1 + 1 + 1 + 1 + 1 + 1 + 1 := by omega
theorem lt_more8 (a b : Nat) (h : a < b) : a < b + 1 + 1 + 1 + 1 + 1 + 1 + 1 + 1 := by omega
theorem bA {w W : World} {o : Obj} (h : Below w.heap.size w W) : Below w.heap.size w (W.alloc o) := h.alloc h.size o
theorem bD {w W : World} (h : Below w.heap.size w W) : Below w.heap.size w W.drew := h.drew
theorem bN {w W : World} {n : Nat} (h : Below w.heap.size w W) : Below w.heap.size w (W.drewN n) := ⟨h.os, h.tape, h.output, h.size, h.block⟩
theorem bS {w W : World} {p : Addr} {u : Value} (h : Below w.heap.size w W) (hp : w.heap.size ≤ p.block) : Below w.heap.size w (W.setCell p u) := h.setCell hp u
theorem bT {w W w1 : World} (h : Below w.heap.size w W) (h1 : Below W.heap.size W w1) : Below w.heap.size w w1 := h.trans (h1.mono h.size)
theorem cell_keep {W w1 : World} {a : Addr} {v : Value} (hb : Below W.heap.size W w1) (h : W.cell? a = some v) : w1.cell? a = some v := (hb.cell (World.block_lt_of_cell? _ _ h)).trans h
theorem frozen_keep {W w1 : World} {a : Addr} {v : Value} (hb : Below W.heap.size W w1) (h : W.cell? a = some v) (hf : W.frozen? a = false) : w1.frozen? a = false := (hb.frozen (World.block_lt_of_cell? _ _ h)).trans hf
attribute [local go_sem] lt_more lt_more2 lt_more3 lt_more4 lt_more5 lt_more6 lt_more7 lt_more8

set_option maxHeartbeats 400000 in
theorem form_any (w : World) (f s0 s1 : Int) (A0 A1 : Option Addr) (n0 c0 n1 c1 : Nat) (h0 : n0 ≤ 32) (h1 : n0 + n1 ≤ 32)
    (ha : absB s0 n0 = true ∧ itemB s0 n0 = false ∨ absB s0 n0 = false ∧ itemB s0 n0 = true) (hb : absB s1 n1 = true ∧ itemB s1 n1 = false ∨ absB s1 n1 = false ∧ itemB s1 n1 = true)
    (hn : ¬ (absB s0 n0 = true ∧ absB s1 n1 = true)) :
    Calls Try.prog 39 #[.agg #[.int .i64 f, .int .i64 s0, .slice A0 n0 c0, .int .i64 s1, .slice A1 n1 c1]] w fun e w' =>
      e = .returned (.bool true) ∧ Below w.heap.size w w' := by
  have hm : (n0 : Int) + n1 ≤ 32 := by omega
  have HB := Lib.hid (Below.refl w.heap.size w)
  rcases ha with ⟨ha, ha'⟩ | ⟨ha, ha'⟩ <;> rcases hb with ⟨hb, hb'⟩ | ⟨hb, hb'⟩
  · exact absurd ⟨ha, hb⟩ hn
  all_goals
    clear hn
    go_enter Try.func39, Try.ntmps39
    go_wp2
    go_region
    all_goals
      go_wp2_with (first | ((go_at_call 23); (with_reducible refine (absent_any _ _ _ _ _).mono ?_); rintro e w1 ⟨rfl, rfl⟩) | ((go_at_call 53); (with_reducible refine (item_any _ _ _ _ _).mono ?_); rintro e w1 ⟨rfl, rfl⟩) | ((go_at_call 22); (with_reducible refine (rest_any _ _ _ _ _ _ _ _ _ _ (by omega) (by omega)).mono ?_); rintro e w1 ⟨rfl, rfl⟩))
      go_ret
      exact ⟨ret_bool (by first | rfl | exact decide_eq_true (by omega)), (by repeat (with_reducible first | exact HB.out | exact Below.refl _ _ | apply bA | apply bD | apply bN | refine bS ?_ (by first | assumption | (simp only []; omega) | omega)))⟩
end Go.Proofs.Ytfdmmbalfjcehaa
