/- Contracts of pool.Used, Saved, Find and zswap.Has over a valid pool. -/
import Derived.Test.YtfdmmbalfjcehaaPd
import Derived.Deep.RegionWith
namespace Go.Proofs.Ytfdmmbalfjcehaa
open Go.RowKit
set_option linter.unusedVariables false
attribute [local go_sem] lt_more lt_more2 lt_more3 lt_more4 lt_more5 lt_more6 lt_more7 lt_more8 idx0 idx1

set_option maxHeartbeats 1000000 in
set_option maxRecDepth 100000 in
theorem used_any (w : World) (v : Value) (fs : List Fr) (hv : FrsV w v fs) (hf : Valid fs) :
    Calls Try.prog 8 #[.agg #[.int .i64 4, v]] w fun e w' => e = .returned (.int .i64 (fs.length * 32 - waste fs)) ∧ Below w.heap.size w w' := by
  obtain ⟨A, c, rfl, hc, hm⟩ := hv.form
  have HB := Lib.hid (Below.refl w.heap.size w)
  have hn4 := hf.1
  have hv0 := Lib.hid hv
  have hw := waste_bd hf fs.length (Nat.le_refl _)
  rw [List.take_length] at hw
  obtain ⟨hw1, hw2⟩ := hw
  obtain ⟨n, hn'⟩ : ∃ n, n = fs.length := ⟨_, rfl⟩
  rw [← hn'] at hn4 hv hc hv0 hw2 ⊢
  have HN := Lib.hid hn'
  have HF := Lib.hid hf
  clear hn' hf hv
  go_enter Try.func8, Try.ntmps8
  go_wp2_with (first | ((go_at_call 21); (with_reducible refine (check_one _ _ fs (hv0.out.below (by repeat (with_reducible first | exact HB.out | exact Below.refl _ _ | apply bA | apply bD | apply bN | refine bS ?_ (by first | assumption | (simp only []; omega) | omega)))) HF.out).mono ?_); rintro e w1 ⟨rfl, hb1⟩; have HB1 := Lib.hid (bT (w := w) ((by repeat (with_reducible first | exact HB.out | exact Below.refl _ _ | apply bA | apply bD | apply bN | refine bS ?_ (by first | assumption | (simp only []; omega) | omega)))) hb1); clear HB; have HB := HB1; clear HB1; have hx0 := cell_keep (a := ⟨w.heap.size, 0, none⟩) (v := .int .i64 4) hb1 (by first | exact hx0 | go_simp); have hx1 := cell_keep (a := ⟨w.heap.size, 1, none⟩) (v := .slice A n c) hb1 (by first | exact hx1 | go_simp); clear hb1))
  go_region_with (((go_at_call 9); (with_reducible refine (waste_any _ _ fs (hv0.out.below (by repeat (with_reducible first | exact HB.out | exact Below.refl _ _ | apply bA | apply bD | apply bN | refine bS ?_ (by first | assumption | (simp only []; omega) | omega)))) HF.out).mono ?_); rintro e w1 ⟨rfl, hb1⟩; have HB1 := Lib.hid (bT (w := w) ((by repeat (with_reducible first | exact HB.out | exact Below.refl _ _ | apply bA | apply bD | apply bN | refine bS ?_ (by first | assumption | (simp only []; omega) | omega)))) hb1); clear HB; have HB := HB1; clear HB1; have hx0 := cell_keep (a := ⟨w.heap.size, 0, none⟩) (v := .int .i64 4) hb1 (by first | exact hx0 | go_simp); have hx1 := cell_keep (a := ⟨w.heap.size, 1, none⟩) (v := .slice A n c) hb1 (by first | exact hx1 | go_simp); clear hb1))
  all_goals
    go_wp2
    go_ret
    refine ⟨ret_int ?_, (by repeat (with_reducible first | exact HB.out | exact Below.refl _ _ | apply bA | apply bD | apply bN | refine bS ?_ (by first | assumption | (simp only []; omega) | omega)))⟩
    show IntKind.i64.wrap (IntKind.i64.wrap ((n : Int) * 32) - waste fs) = _
    rw [IntWalk.i64_in ((n : Int) * 32) (by omega), IntWalk.i64_in _ (by omega)]

theorem find_idx (fs : List Fr) (k : Nat) (s : Int) : (findFrom fs k s = (-1, -1)) ∨ ∃ (i : Nat) (j : Int) (f : Fr), fs[i]? = some f ∧ findFrom fs k s = (((k + i : Nat) : Int), j) ∧ (j = 0 ∧ f.a.isB s = true ∨ j = 1 ∧ f.b.isB s = true) := by
  induction fs generalizing k with
  | nil => left; rfl
  | cons f r ih =>
    unfold findFrom
    by_cases ha : f.a.isB s = true
    · right; exact ⟨0, 0, f, rfl, by rw [if_pos ha]; simp, .inl ⟨rfl, ha⟩⟩
    · by_cases hb : f.b.isB s = true
      · right; exact ⟨0, 1, f, rfl, by rw [if_neg ha, if_pos hb]; simp, .inr ⟨rfl, hb⟩⟩
      · rw [if_neg ha, if_neg hb]
        rcases ih (k + 1) with h | ⟨i, j, g, h1, h2, h3⟩
        · exact .inl h
        · right; exact ⟨i + 1, j, g, by simpa using h1, by rw [h2]; congr 2; omega, h3⟩

theorem Find_any (w : World) (v : Value) (fs : List Fr) (s : Int) (hv : FrsV w v fs) (hf : Valid fs) :
    Calls Try.prog 17 #[.agg #[.int .i64 4, v], .int .i64 s] w fun e w' => (∃ r : Int, e = .returned (.int .i64 r) ∧ ((r == -1) = ((findFrom fs 0 s).1 == -1))) ∧ Below w.heap.size w w' := by
  obtain ⟨A, c, rfl, hc, hm⟩ := hv.form
  have HB := Lib.hid (Below.refl w.heap.size w)
  have hn4 := hf.1
  have hv0 := Lib.hid hv
  obtain ⟨n, hn'⟩ : ∃ n, n = fs.length := ⟨_, rfl⟩
  rw [← hn'] at hn4 hv hc hv0 ⊢
  have HN := Lib.hid hn'
  have HF := Lib.hid hf
  clear hn' hf hv
  have hcase := find_idx fs 0 s
  rcases hcase with h | ⟨i, j, f, hi, hfi, _⟩
  · have e1 : (findFrom fs 0 s).1 = -1 := by rw [h]
    have e2 : (findFrom fs 0 s).2 = -1 := by rw [h]
    clear h
    go_enter Try.func17, Try.ntmps17
    go_wp2_with (first | ((go_at_call 21); (with_reducible refine (check_one _ _ fs (hv0.out.below (by repeat (with_reducible first | exact HB.out | exact Below.refl _ _ | apply bA | apply bD | apply bN | refine bS ?_ (by first | assumption | (simp only []; omega) | omega)))) HF.out).mono ?_); rintro e w1 ⟨rfl, hb1⟩; have HB1 := Lib.hid (bT (w := w) ((by repeat (with_reducible first | exact HB.out | exact Below.refl _ _ | apply bA | apply bD | apply bN | refine bS ?_ (by first | assumption | (simp only []; omega) | omega)))) hb1); clear HB; have HB := HB1; clear HB1; have hx0 := cell_keep (a := ⟨w.heap.size, 0, none⟩) (v := .int .i64 4) hb1 (by first | exact hx0 | go_simp); have hx1 := cell_keep (a := ⟨w.heap.size, 1, none⟩) (v := .slice A n c) hb1 (by first | exact hx1 | go_simp); clear hb1) | ((go_at_call 34); (with_reducible refine (find_any _ _ fs s (hv0.out.below (by repeat (with_reducible first | exact HB.out | exact Below.refl _ _ | apply bA | apply bD | apply bN | refine bS ?_ (by first | assumption | (simp only []; omega) | omega)))) (by have := HN.out; omega)).mono ?_); rintro e w1 ⟨rfl, hb1⟩; have HB1 := Lib.hid (bT (w := w) ((by repeat (with_reducible first | exact HB.out | exact Below.refl _ _ | apply bA | apply bD | apply bN | refine bS ?_ (by first | assumption | (simp only []; omega) | omega)))) hb1); clear HB; have HB := HB1; clear HB1; have hx0 := cell_keep (a := ⟨w.heap.size, 0, none⟩) (v := .int .i64 4) hb1 (by first | exact hx0 | go_simp); have hx1 := cell_keep (a := ⟨w.heap.size, 1, none⟩) (v := .slice A n c) hb1 (by first | exact hx1 | go_simp); clear hb1))
    go_ret
    exact ⟨⟨-1, rfl, by rw [e1]⟩, (by repeat (with_reducible first | exact HB.out | exact Below.refl _ _ | apply bA | apply bD | apply bN | refine bS ?_ (by first | assumption | (simp only []; omega) | omega)))⟩
  · have e1 : (findFrom fs 0 s).1 = i := by rw [hfi]; simp
    have HI := Lib.hid hi
    have hin : i < n := by rw [HN.out]; exact (List.getElem?_eq_some_iff.1 hi).1
    have hok := (valid_at HF.out hi).1
    have hi0 : (0 : Int) ≤ i := by omega
    clear hi hfi
    go_enter Try.func17, Try.ntmps17
    go_wp2_with (first | ((go_at_call 21); (with_reducible refine (check_one _ _ fs (hv0.out.below (by repeat (with_reducible first | exact HB.out | exact Below.refl _ _ | apply bA | apply bD | apply bN | refine bS ?_ (by first | assumption | (simp only []; omega) | omega)))) HF.out).mono ?_); rintro e w1 ⟨rfl, hb1⟩; have HB1 := Lib.hid (bT (w := w) ((by repeat (with_reducible first | exact HB.out | exact Below.refl _ _ | apply bA | apply bD | apply bN | refine bS ?_ (by first | assumption | (simp only []; omega) | omega)))) hb1); clear HB; have HB := HB1; clear HB1; have hx0 := cell_keep (a := ⟨w.heap.size, 0, none⟩) (v := .int .i64 4) hb1 (by first | exact hx0 | go_simp); have hx1 := cell_keep (a := ⟨w.heap.size, 1, none⟩) (v := .slice A n c) hb1 (by first | exact hx1 | go_simp); clear hb1) | ((go_at_call 34); (with_reducible refine (find_any _ _ fs s (hv0.out.below (by repeat (with_reducible first | exact HB.out | exact Below.refl _ _ | apply bA | apply bD | apply bN | refine bS ?_ (by first | assumption | (simp only []; omega) | omega)))) (by have := HN.out; omega)).mono ?_); rintro e w1 ⟨rfl, hb1⟩; have HB1 := Lib.hid (bT (w := w) ((by repeat (with_reducible first | exact HB.out | exact Below.refl _ _ | apply bA | apply bD | apply bN | refine bS ?_ (by first | assumption | (simp only []; omega) | omega)))) hb1); clear HB; have HB := HB1; clear HB1; have hx0 := cell_keep (a := ⟨w.heap.size, 0, none⟩) (v := .int .i64 4) hb1 (by first | exact hx0 | go_simp); have hx1 := cell_keep (a := ⟨w.heap.size, 1, none⟩) (v := .slice A n c) hb1 (by first | exact hx1 | go_simp); (obtain ⟨g, v0, v1, rfl, hg, b0, b1, h0, h1, h2, h3, h4⟩ := (hv0.out.below HB.out).at_ HI.out); clear hb1))
    go_ret
    refine ⟨⟨f.num, rfl, ?_⟩, (by repeat (with_reducible first | exact HB.out | exact Below.refl _ _ | apply bA | apply bD | apply bN | refine bS ?_ (by first | assumption | (simp only []; omega) | omega)))⟩
    rw [e1]
    have a1 : (f.num == -1) = false := by simp; omega
    have a2 : ((i : Int) == -1) = false := by simp
    rw [a1, a2]
end Go.Proofs.Ytfdmmbalfjcehaa
