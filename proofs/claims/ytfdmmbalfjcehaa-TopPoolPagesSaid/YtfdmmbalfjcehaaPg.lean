/- Contracts of the search for the place of a frame whose number is greater than all, of pool.fresh and of pool.New. -/
import Derived.Test.YtfdmmbalfjcehaaPf
import Derived.Test.YtfdmmbalfjcehaaShelf
namespace Go.Proofs.Ytfdmmbalfjcehaa
open Go.RowKit
set_option linter.unusedVariables false
attribute [local go_sem] lt_more lt_more2 lt_more3 lt_more4 lt_more5 lt_more6 lt_more7 lt_more8 idx0 idx1

theorem cmp_less (w : World) (f s0 s1 x : Int) (A0 A1 : Option Addr) (n0 c0 n1 c1 : Nat) (h : f < x) :
    Calls Try.prog 56 #[.agg #[.int .i64 f, .int .i64 s0, .slice A0 n0 c0, .int .i64 s1, .slice A1 n1 c1], .int .i64 x] w fun e w' =>
      e = .returned (.int .i64 (-1)) ∧ w.alloc (.cells #[.int .i64 f, .int .i64 s0, .slice A0 n0 c0, .int .i64 s1, .slice A1 n1 c1] 55) = w' := by
  have hL := Lib.hid (show Lib.compareInt f x = -1 by unfold Lib.compareInt; rw [if_pos h])
  go_enter Try.func56, Try.ntmps56
  go_wp2_with fail
  refine (Try.cmp_Compare_int f x _).mono ?_
  rintro e w1 ⟨rfl, rfl⟩
  go_wp2
  go_ret
  exact ⟨ret_int (by rw [hL.out]), rfl⟩

set_option maxHeartbeats 1000000 in
set_option maxRecDepth 100000 in
theorem search_end (w : World) (v : Value) (fs : List Fr) (x : Int) (hv : FrsV w v fs) (hn4 : fs.length ≤ 4) (hx : ∀ f ∈ fs, f.num < x) :
    Calls Try.prog 55 #[v, .int .i64 x, .func (.func 56) #[] #[]] w fun e w' => e = .returned (.tuple #[.int .i64 fs.length, .bool false]) ∧ Below w.heap.size w w' := by
  obtain ⟨A, c, rfl, hc, hm⟩ := hv.form
  have HB := Lib.hid (Below.refl w.heap.size w)
  obtain ⟨n, hn'⟩ : ∃ n, n = fs.length := ⟨_, rfl⟩
  rw [← hn'] at hn4 hv hc ⊢
  have HN := Lib.hid hn'
  have HX := Lib.hid hx
  clear hn' hx
  go_enter Try.func55, Try.ntmps55
  go_wp2
  go_loopw [9, 10] (fun i j wr => ∃ k : Nat, k ≤ n ∧ i = .int .i64 k ∧ j = .int .i64 n ∧ Below w.heap.size w wr) (fun i _ _ => n - (intOf i).toNat)
  case atStart => exact ⟨0, Nat.zero_le _, rfl, rfl, (by repeat (with_reducible first | exact HB.out | exact Below.refl _ _ | apply bA | apply bD | apply bN | refine bS ?_ (by first | assumption | (simp only []; omega) | omega)))⟩
  case round =>
    obtain ⟨k, hk, rfl, rfl, hb⟩ := hrel
    have hv' := hv.below hb
    clear HB; have HB := Lib.hid hb; clear hb
    by_cases hlt : k < n
    · have hkm : k ≤ (k + n) / 2 := by omega
      have hmn : (k + n) / 2 < n := by omega
      obtain ⟨f, hf⟩ : ∃ f, fs[(k + n) / 2]? = some f := ⟨fs[(k + n) / 2]'(by rw [← HN.out]; exact hmn), List.getElem?_eq_getElem _⟩
      have hlf := HX.out f (List.mem_of_getElem? hf)
      obtain ⟨g, v0, v1, rfl, hg, b0, b1, h0, h1, h2, h3, h4⟩ := hv'.at_ hf
      obtain ⟨A0, c0, rfl, _, _⟩ := b0.form
      obtain ⟨A1, c1, rfl, _, _⟩ := b1.form
      clear hv hv' b0 b1 hf
      go_wp2_with (first | ((go_at_call 56); (with_reducible refine (cmp_less _ _ _ _ _ _ _ _ _ _ _ hlf).mono ?_); rintro e w1 ⟨rfl, rfl⟩))
      go_roundw
      case rel => exact ⟨(k + n) / 2 + 1, by omega, by go_num, by go_num, (by repeat (with_reducible first | exact HB.out | exact Below.refl _ _ | apply bA | apply bD | apply bN | refine bS ?_ (by first | assumption | (simp only []; omega) | omega)))⟩
      case measure => simp [intOf]; omega
    · have e : k = n := by omega
      subst e
      go_wp2
      go_ret2
      exact ⟨rfl, (by repeat (with_reducible first | exact HB.out | exact Below.refl _ _ | apply bA | apply bD | apply bN | refine bS ?_ (by first | assumption | (simp only []; omega) | omega)))⟩

theorem locate_end (w : World) (v : Value) (fs : List Fr) (x : Int) (hv : FrsV w v fs) (hn4 : fs.length ≤ 4) (hx : ∀ f ∈ fs, f.num < x) :
    Calls Try.prog 49 #[.agg #[.int .i64 4, v], .int .i64 x] w fun e w' => e = .returned (.tuple #[.int .i64 fs.length, .bool false]) ∧ Below w.heap.size w w' := by
  obtain ⟨A, c, rfl, hc, hm⟩ := hv.form
  have HB := Lib.hid (Below.refl w.heap.size w)
  have hv0 := Lib.hid hv
  obtain ⟨n, hn'⟩ : ∃ n, n = fs.length := ⟨_, rfl⟩
  rw [← hn'] at hv hc hv0 ⊢
  have HN := Lib.hid hn'
  have HX := Lib.hid hx
  clear hn' hv hx
  go_enter Try.func49, Try.ntmps49
  go_wp2_with fail
  refine (search_end _ _ fs x (hv0.out.below (by repeat (with_reducible first | exact HB.out | exact Below.refl _ _ | apply bA | apply bD | apply bN | refine bS ?_ (by first | assumption | (simp only []; omega) | omega)))) hn4 HX.out).mono ?_
  rintro e w1 ⟨rfl, hb1⟩
  have HB1 := Lib.hid (bT (w := w) (by repeat (with_reducible first | exact HB.out | exact Below.refl _ _ | apply bA | apply bD | apply bN | refine bS ?_ (by first | assumption | (simp only []; omega) | omega))) hb1); clear HB; have HB := HB1; clear HB1 hb1
  rw [← HN.out]
  go_wp2
  go_ret2
  exact ⟨rfl, (by repeat (with_reducible first | exact HB.out | exact Below.refl _ _ | apply bA | apply bD | apply bN | refine bS ?_ (by first | assumption | (simp only []; omega) | omega)))⟩

theorem fresh_full (w : World) (v : Value) (fs : List Fr) (x : Int) (hv : FrsV w v fs) (hn4 : fs.length = 4) :
    Calls Try.prog 48 #[.agg #[.int .i64 4, v], .int .i64 x] w fun e w' => e = .returned (.int .i64 8) ∧ Below w.heap.size w w' := by
  obtain ⟨A, c, rfl, hc, hm⟩ := hv.form
  have HB := Lib.hid (Below.refl w.heap.size w)
  rw [hn4] at hv hc ⊢
  clear hn4 hv
  go_enter Try.func48, Try.ntmps48
  go_wp2
  go_ret
  exact ⟨rfl, (by repeat (with_reducible first | exact HB.out | exact Below.refl _ _ | apply bA | apply bD | apply bN | refine bS ?_ (by first | assumption | (simp only []; omega) | omega)))⟩

theorem fresh_ok (w : World) (v : Value) (fs : List Fr) (x : Int) (hv : FrsV w v fs) (hn4 : fs.length < 4) (hx : ∀ f ∈ fs, f.num < x) (x0 : 0 ≤ x) (x1 : x < 256) :
    Calls Try.prog 48 #[.agg #[.int .i64 4, v], .int .i64 x] w fun e w' => e = .returned (.int .i64 0) ∧ Below w.heap.size w w' := by
  obtain ⟨A, c, rfl, hc, hm⟩ := hv.form
  have HB := Lib.hid (Below.refl w.heap.size w)
  have hv0 := Lib.hid hv
  have h40 := Lib.hid hn4
  obtain ⟨n, hn'⟩ : ∃ n, n = fs.length := ⟨_, rfl⟩
  rw [← hn'] at hv hc hv0 hn4 ⊢
  have HN := Lib.hid hn'
  have HX := Lib.hid hx
  have hq : ((n : Int) == 4) = false := by simp; omega
  have hq2 : (x == -1) = false := by simp; omega
  clear hn' hv hx
  go_enter Try.func48, Try.ntmps48
  go_wp2_with fail
  refine (locate_end _ _ fs x (hv0.out.below (by repeat (with_reducible first | exact HB.out | exact Below.refl _ _ | apply bA | apply bD | apply bN | refine bS ?_ (by first | assumption | (simp only []; omega) | omega)))) (by have := h40.out; omega) HX.out).mono ?_
  rintro e w1 ⟨rfl, hb1⟩
  have HB1 := Lib.hid (bT (w := w) (by repeat (with_reducible first | exact HB.out | exact Below.refl _ _ | apply bA | apply bD | apply bN | refine bS ?_ (by first | assumption | (simp only []; omega) | omega))) hb1); clear HB; have HB := HB1; clear HB1 hb1
  go_wp2
  go_ret
  exact ⟨rfl, (by repeat (with_reducible first | exact HB.out | exact Below.refl _ _ | apply bA | apply bD | apply bN | refine bS ?_ (by first | assumption | (simp only []; omega) | omega)))⟩

theorem New_four (w : World) :
    Calls Try.prog 12 #[.int .i64 4] w fun e w' => e = .returned (.tuple #[.agg #[.int .i64 4, .slice none 0 0], .int .i64 0]) ∧ Below w.heap.size w w' := by
  have HB := Lib.hid (Below.refl w.heap.size w)
  go_enter Try.func12, Try.ntmps12
  go_wp2
  exact bodyPost_ret (v := .tuple #[.agg #[.int .i64 4, .slice none 0 0], .int .i64 0]) (by simp [results, Try.results12, go_sem]) rfl ⟨rfl, (by repeat (with_reducible first | exact HB.out | exact Below.refl _ _ | apply bA | apply bD | apply bN | refine bS ?_ (by first | assumption | (simp only []; omega) | omega)))⟩
end Go.Proofs.Ytfdmmbalfjcehaa
