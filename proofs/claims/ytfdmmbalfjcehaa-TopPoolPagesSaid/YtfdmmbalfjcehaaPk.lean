/- Contracts of pool.Load and pool.Fits over a valid pool. -/
import Derived.Test.YtfdmmbalfjcehaaPi
namespace Go.Proofs.Ytfdmmbalfjcehaa
open Go.RowKit
set_option linter.unusedVariables false
attribute [local go_sem] lt_more lt_more2 lt_more3 lt_more4 lt_more5 lt_more6 lt_more7 lt_more8 idx0 idx1

set_option maxHeartbeats 1000000 in
set_option maxRecDepth 100000 in
theorem fits_any (w : World) (v : Value) (fs : List Fr) (size : Int) (hv : FrsV w v fs) (hf : Valid fs) (h1 : 1 ≤ size) (h2 : size ≤ 32) :
    Calls Try.prog 31 #[.agg #[.int .i64 4, v], .int .i64 size] w fun e w' => (∃ r : Int, e = .returned (.int .i64 r) ∧ ((r == -1) = (fitTo fs size fs.length == -1))) ∧ Below w.heap.size w w' := by
  obtain ⟨A, c, rfl, hc, hm⟩ := hv.form
  have HB := Lib.hid (Below.refl w.heap.size w)
  have hv0 := Lib.hid hv
  have hbd := fitTo_bd fs size fs.length
  obtain ⟨b, hb⟩ : ∃ b, b = fitTo fs size fs.length := ⟨_, rfl⟩
  rw [← hb] at hbd
  have HFit := Lib.hid hb
  obtain ⟨n, hn'⟩ : ∃ n, n = fs.length := ⟨_, rfl⟩
  rw [← hn'] at hv hc hv0 hbd ⊢
  have HN := Lib.hid hn'
  have HF := Lib.hid hf
  obtain ⟨bd1, bd2⟩ := hbd
  clear hn' hf hv hb
  by_cases hneg : b < 0
  · obtain rfl : b = -1 := by omega
    clear bd1 bd2 hneg
    go_enter Try.func31, Try.ntmps31
    go_wp2_with (first | ((go_at_call 21); (with_reducible refine (check_one _ _ fs (hv0.out.below (by repeat (with_reducible first | exact HB.out | exact Below.refl _ _ | apply bA | apply bD | apply bN | refine bS ?_ (by first | assumption | (simp only []; omega) | omega)))) HF.out).mono ?_); rintro e w1 ⟨rfl, hb1⟩; have HB1 := Lib.hid (bT (w := w) ((by repeat (with_reducible first | exact HB.out | exact Below.refl _ _ | apply bA | apply bD | apply bN | refine bS ?_ (by first | assumption | (simp only []; omega) | omega)))) hb1); clear HB; have HB := HB1; clear HB1; have hx0 := cell_keep (a := ⟨w.heap.size, 0, none⟩) (v := .int .i64 4) hb1 (by first | exact hx0 | go_simp); have hx1 := cell_keep (a := ⟨w.heap.size, 1, none⟩) (v := .slice A n c) hb1 (by first | exact hx1 | go_simp); clear hb1) | ((go_at_call 46); (with_reducible refine (fit_any _ _ fs size (hv0.out.below (by repeat (with_reducible first | exact HB.out | exact Below.refl _ _ | apply bA | apply bD | apply bN | refine bS ?_ (by first | assumption | (simp only []; omega) | omega)))) HF.out).mono ?_); rintro e w1 ⟨rfl, hb1⟩; have HB1 := Lib.hid (bT (w := w) ((by repeat (with_reducible first | exact HB.out | exact Below.refl _ _ | apply bA | apply bD | apply bN | refine bS ?_ (by first | assumption | (simp only []; omega) | omega)))) hb1); clear HB; have HB := HB1; clear HB1; have hx0 := cell_keep (a := ⟨w.heap.size, 0, none⟩) (v := .int .i64 4) hb1 (by first | exact hx0 | go_simp); have hx1 := cell_keep (a := ⟨w.heap.size, 1, none⟩) (v := .slice A n c) hb1 (by first | exact hx1 | go_simp); (rw [← HFit.out]); clear hb1))
    go_ret
    exact ⟨⟨-1, rfl, by rw [HN.out, ← HFit.out]⟩, (by repeat (with_reducible first | exact HB.out | exact Below.refl _ _ | apply bA | apply bD | apply bN | refine bS ?_ (by first | assumption | (simp only []; omega) | omega)))⟩
  · obtain ⟨i, rfl⟩ : ∃ i : Nat, b = i := ⟨b.toNat, by omega⟩
    obtain ⟨f, hf⟩ : ∃ f, fs[i]? = some f := ⟨fs[i]'(by rw [← HN.out]; omega), List.getElem?_eq_getElem _⟩
    have hok := (valid_at HF.out hf).1
    have HK := Lib.hid hf
    have hin : i < n := by omega
    clear hf bd1 hneg
    go_enter Try.func31, Try.ntmps31
    go_wp2_with (first | ((go_at_call 21); (with_reducible refine (check_one _ _ fs (hv0.out.below (by repeat (with_reducible first | exact HB.out | exact Below.refl _ _ | apply bA | apply bD | apply bN | refine bS ?_ (by first | assumption | (simp only []; omega) | omega)))) HF.out).mono ?_); rintro e w1 ⟨rfl, hb1⟩; have HB1 := Lib.hid (bT (w := w) ((by repeat (with_reducible first | exact HB.out | exact Below.refl _ _ | apply bA | apply bD | apply bN | refine bS ?_ (by first | assumption | (simp only []; omega) | omega)))) hb1); clear HB; have HB := HB1; clear HB1; have hx0 := cell_keep (a := ⟨w.heap.size, 0, none⟩) (v := .int .i64 4) hb1 (by first | exact hx0 | go_simp); have hx1 := cell_keep (a := ⟨w.heap.size, 1, none⟩) (v := .slice A n c) hb1 (by first | exact hx1 | go_simp); clear hb1) | ((go_at_call 46); (with_reducible refine (fit_any _ _ fs size (hv0.out.below (by repeat (with_reducible first | exact HB.out | exact Below.refl _ _ | apply bA | apply bD | apply bN | refine bS ?_ (by first | assumption | (simp only []; omega) | omega)))) HF.out).mono ?_); rintro e w1 ⟨rfl, hb1⟩; have HB1 := Lib.hid (bT (w := w) ((by repeat (with_reducible first | exact HB.out | exact Below.refl _ _ | apply bA | apply bD | apply bN | refine bS ?_ (by first | assumption | (simp only []; omega) | omega)))) hb1); clear HB; have HB := HB1; clear HB1; have hx0 := cell_keep (a := ⟨w.heap.size, 0, none⟩) (v := .int .i64 4) hb1 (by first | exact hx0 | go_simp); have hx1 := cell_keep (a := ⟨w.heap.size, 1, none⟩) (v := .slice A n c) hb1 (by first | exact hx1 | go_simp); (rw [← HFit.out]); (obtain ⟨g, v0, v1, rfl, hg, b0, b1, h0, h1, h2, h3, h4⟩ := (hv0.out.below HB.out).at_ HK.out); clear hb1))
    go_ret
    refine ⟨⟨f.num, rfl, ?_⟩, (by repeat (with_reducible first | exact HB.out | exact Below.refl _ _ | apply bA | apply bD | apply bN | refine bS ?_ (by first | assumption | (simp only []; omega) | omega)))⟩
    rw [HN.out, ← HFit.out]
    have a1 : (f.num == -1) = false := by simp; omega
    have a2 : ((i : Int) == -1) = false := by simp
    rw [a1, a2]

set_option maxHeartbeats 1000000 in
set_option maxRecDepth 100000 in
theorem load_none (w : World) (v : Value) (fs : List Fr) (s : Int) (hv : FrsV w v fs) (hf : Valid fs) (hn : findFrom fs 0 s = (-1, -1)) :
    Calls Try.prog 25 #[.agg #[.int .i64 4, v], .int .i64 s] w fun e w' => e = .returned (.tuple #[.slice none 0 0, .int .i64 6]) ∧ Below w.heap.size w w' := by
  obtain ⟨A, c, rfl, hc, hm⟩ := hv.form
  have HB := Lib.hid (Below.refl w.heap.size w)
  have hv0 := Lib.hid hv
  have hn4 := hf.1
  obtain ⟨n, hn'⟩ : ∃ n, n = fs.length := ⟨_, rfl⟩
  rw [← hn'] at hv hc hv0 ⊢
  have HN := Lib.hid hn'
  have HF := Lib.hid hf
  have e1 : (findFrom fs 0 s).1 = -1 := by rw [hn]
  have e2 : (findFrom fs 0 s).2 = -1 := by rw [hn]
  clear hn' hf hv hn
  go_enter Try.func25, Try.ntmps25
  go_wp2_with (first | ((go_at_call 21); (with_reducible refine (check_one _ _ fs (hv0.out.below (by repeat (with_reducible first | exact HB.out | exact Below.refl _ _ | apply bA | apply bD | apply bN | refine bS ?_ (by first | assumption | (simp only []; omega) | omega)))) HF.out).mono ?_); rintro e w1 ⟨rfl, hb1⟩; have HB1 := Lib.hid (bT (w := w) ((by repeat (with_reducible first | exact HB.out | exact Below.refl _ _ | apply bA | apply bD | apply bN | refine bS ?_ (by first | assumption | (simp only []; omega) | omega)))) hb1); clear HB; have HB := HB1; clear HB1; have hx0 := cell_keep (a := ⟨w.heap.size, 0, none⟩) (v := .int .i64 4) hb1 (by first | exact hx0 | go_simp); have hx1 := cell_keep (a := ⟨w.heap.size, 1, none⟩) (v := .slice A n c) hb1 (by first | exact hx1 | go_simp); clear hb1) | ((go_at_call 34); (with_reducible refine (find_any _ _ fs s (hv0.out.below (by repeat (with_reducible first | exact HB.out | exact Below.refl _ _ | apply bA | apply bD | apply bN | refine bS ?_ (by first | assumption | (simp only []; omega) | omega)))) (by omega)).mono ?_); rintro e w1 ⟨rfl, hb1⟩; have HB1 := Lib.hid (bT (w := w) ((by repeat (with_reducible first | exact HB.out | exact Below.refl _ _ | apply bA | apply bD | apply bN | refine bS ?_ (by first | assumption | (simp only []; omega) | omega)))) hb1); clear HB; have HB := HB1; clear HB1; have hx0 := cell_keep (a := ⟨w.heap.size, 0, none⟩) (v := .int .i64 4) hb1 (by first | exact hx0 | go_simp); have hx1 := cell_keep (a := ⟨w.heap.size, 1, none⟩) (v := .slice A n c) hb1 (by first | exact hx1 | go_simp); clear hb1))
  go_ret2
  exact ⟨rfl, (by repeat (with_reducible first | exact HB.out | exact Below.refl _ _ | apply bA | apply bD | apply bN | refine bS ?_ (by first | assumption | (simp only []; omega) | omega)))⟩

/-- The item that a search comes to. -/
def itAt (f : Fr) (j : Int) : It := if j = 0 then f.a else f.b

set_option maxHeartbeats 2000000 in
set_option maxRecDepth 100000 in
theorem load_some (w : World) (v : Value) (fs : List Fr) (s : Int) (hv : FrsV w v fs) (hf : Valid fs) (i : Nat) (j : Int) (f : Fr) (hi : fs[i]? = some f) (hj : j = 0 ∨ j = 1) (hn : findFrom fs 0 s = ((i : Int), j)) :
    Calls Try.prog 25 #[.agg #[.int .i64 4, v], .int .i64 s] w fun e w' => (∃ v', e = .returned (.tuple #[v', .int .i64 0]) ∧ ByB w' w.heap.size v' (itAt f j).data) ∧ Below w.heap.size w w' := by
  obtain ⟨A, c, rfl, hc, hm⟩ := hv.form
  have HB := Lib.hid (Below.refl w.heap.size w)
  have hv0 := Lib.hid hv
  have hn4 := hf.1
  have hsum := (valid_at hf hi).2.2.2.2
  obtain ⟨n, hn'⟩ : ∃ n, n = fs.length := ⟨_, rfl⟩
  rw [← hn'] at hv hc hv0 ⊢
  have HN := Lib.hid hn'
  have HF := Lib.hid hf
  have HK := Lib.hid hi
  have hin : i < n := by rw [HN.out]; exact (List.getElem?_eq_some_iff.1 hi).1
  have e1 : (findFrom fs 0 s).1 = i := by rw [hn]
  have e2 : (findFrom fs 0 s).2 = j := by rw [hn]
  clear hn' hf hv hn hi
  rcases hj with rfl | rfl
  all_goals
    go_enter Try.func25, Try.ntmps25
    go_wp2_with (first | ((go_at_call 21); (with_reducible refine (check_one _ _ fs (hv0.out.below (by repeat (with_reducible first | exact HB.out | exact Below.refl _ _ | apply bA | apply bD | apply bN | refine bS ?_ (by first | assumption | (simp only []; omega) | omega)))) HF.out).mono ?_); rintro e w1 ⟨rfl, hb1⟩; have HB1 := Lib.hid (bT (w := w) ((by repeat (with_reducible first | exact HB.out | exact Below.refl _ _ | apply bA | apply bD | apply bN | refine bS ?_ (by first | assumption | (simp only []; omega) | omega)))) hb1); clear HB; have HB := HB1; clear HB1; have hx0 := cell_keep (a := ⟨w.heap.size, 0, none⟩) (v := .int .i64 4) hb1 (by first | exact hx0 | go_simp); have hx1 := cell_keep (a := ⟨w.heap.size, 1, none⟩) (v := .slice A n c) hb1 (by first | exact hx1 | go_simp); clear hb1) | ((go_at_call 34); (with_reducible refine (find_any _ _ fs s (hv0.out.below (by repeat (with_reducible first | exact HB.out | exact Below.refl _ _ | apply bA | apply bD | apply bN | refine bS ?_ (by first | assumption | (simp only []; omega) | omega)))) (by omega)).mono ?_); rintro e w1 ⟨rfl, hb1⟩; have HB1 := Lib.hid (bT (w := w) ((by repeat (with_reducible first | exact HB.out | exact Below.refl _ _ | apply bA | apply bD | apply bN | refine bS ?_ (by first | assumption | (simp only []; omega) | omega)))) hb1); clear HB; have HB := HB1; clear HB1; have hx0 := cell_keep (a := ⟨w.heap.size, 0, none⟩) (v := .int .i64 4) hb1 (by first | exact hx0 | go_simp); have hx1 := cell_keep (a := ⟨w.heap.size, 1, none⟩) (v := .slice A n c) hb1 (by first | exact hx1 | go_simp); (obtain ⟨g, v0, v1, rfl, hg, b0, b1, h0, h1, h2, h3, h4⟩ := (hv0.out.below HB.out).at_ HK.out); (have D0 := Lib.hid b0); (have D1 := Lib.hid b1); clear b0 b1; clear hb1))
  · have hle := HB.out.size
    refine (bclone_any _ _ f.a.data (D0.out.below (by repeat (with_reducible first | exact Below.refl _ _ | apply bA | apply bD | apply bN))) (by omega)).mono ?_
    rintro e w3 ⟨v', rfl, ho, hb1⟩
    have HO := Lib.hid (own_mono ho hle)
    have HB1 := Lib.hid (bT (w := w) (by repeat (with_reducible first | exact HB.out | exact Below.refl _ _ | apply bA | apply bD | apply bN | refine bS ?_ (by first | assumption | (simp only []; omega) | omega))) hb1); clear HB; have HB := HB1; clear HB1 ho hb1 hle
    go_wp2
    go_ret2
    exact ⟨⟨v', rfl, HO.out⟩, (by repeat (with_reducible first | exact HB.out | exact Below.refl _ _ | apply bA | apply bD | apply bN | refine bS ?_ (by first | assumption | (simp only []; omega) | omega)))⟩
  · have hle := HB.out.size
    refine (bclone_any _ _ f.b.data (D1.out.below (by repeat (with_reducible first | exact Below.refl _ _ | apply bA | apply bD | apply bN))) (by omega)).mono ?_
    rintro e w3 ⟨v', rfl, ho, hb1⟩
    have HO := Lib.hid (own_mono ho hle)
    have HB1 := Lib.hid (bT (w := w) (by repeat (with_reducible first | exact HB.out | exact Below.refl _ _ | apply bA | apply bD | apply bN | refine bS ?_ (by first | assumption | (simp only []; omega) | omega))) hb1); clear HB; have HB := HB1; clear HB1 ho hb1 hle
    go_wp2
    go_ret2
    exact ⟨⟨v', rfl, HO.out⟩, (by repeat (with_reducible first | exact HB.out | exact Below.refl _ _ | apply bA | apply bD | apply bN | refine bS ?_ (by first | assumption | (simp only []; omega) | omega)))⟩
end Go.Proofs.Ytfdmmbalfjcehaa
