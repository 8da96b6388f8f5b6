/- Contracts of pool.Saved and zswap.Has over a valid pool. -/
import Derived.Test.YtfdmmbalfjcehaaPe
namespace Go.Proofs.Ytfdmmbalfjcehaa
open Go.RowKit
set_option linter.unusedVariables false
attribute [local go_sem] lt_more lt_more2 lt_more3 lt_more4 lt_more5 lt_more6 lt_more7 lt_more8 idx0 idx1

theorem Has_any (w : World) (v : Value) (fs : List Fr) (s : Int) (hv : FrsV w v fs) (hf : Valid fs) :
    Calls Try.prog 6 #[.agg #[.int .i64 4, v], .int .i64 s] w fun e w' => e = .returned (.bool (!((findFrom fs 0 s).1 == -1))) ∧ Below w.heap.size w w' := by
  obtain ⟨A, c, rfl, hc, hm⟩ := hv.form
  have HB := Lib.hid (Below.refl w.heap.size w)
  have hv0 := Lib.hid hv
  obtain ⟨n, hn'⟩ : ∃ n, n = fs.length := ⟨_, rfl⟩
  rw [← hn'] at hv hc hv0 ⊢
  have HN := Lib.hid hn'
  have HF := Lib.hid hf
  clear hn' hf hv
  go_enter Try.func6, Try.ntmps6
  go_wp2_with fail
  refine (Find_any _ _ fs s (hv0.out.below (by repeat (with_reducible first | exact HB.out | exact Below.refl _ _ | apply bA | apply bD | apply bN | refine bS ?_ (by first | assumption | (simp only []; omega) | omega)))) HF.out).mono ?_
  rintro e w1 ⟨⟨r, rfl, hr⟩, hb1⟩
  have HB1 := Lib.hid (bT (w := w) (by repeat (with_reducible first | exact HB.out | exact Below.refl _ _ | apply bA | apply bD | apply bN | refine bS ?_ (by first | assumption | (simp only []; omega) | omega))) hb1); clear HB; have HB := HB1; clear HB1 hb1
  have HR := Lib.hid hr
  clear hr
  go_wp2
  go_ret
  refine ⟨ret_bool ?_, (by repeat (with_reducible first | exact HB.out | exact Below.refl _ _ | apply bA | apply bD | apply bN | refine bS ?_ (by first | assumption | (simp only []; omega) | omega)))⟩
  rw [← HR.out]; rfl

def cntA (f : Fr) : Int := (if absB f.a.slot f.a.data.length then 0 else 1) + (if absB f.b.slot f.b.data.length then 0 else 1)
def count (fs : List Fr) : Int := (fs.map cntA).sum
theorem count_snoc (fs : List Fr) (k : Nat) (f : Fr) (hf : fs[k]? = some f) : count (fs.take (k + 1)) = count (fs.take k) + cntA f := by
  obtain ⟨hk, rfl⟩ := List.getElem?_eq_some_iff.1 hf
  simp [count, List.take_succ_eq_append_getElem hk, -List.take_append_getElem]
theorem cntA_bd (f : Fr) : 0 ≤ cntA f ∧ cntA f ≤ 2 := by
  unfold cntA; split <;> split <;> omega
theorem count_bd (fs : List Fr) (k : Nat) (hk : k ≤ fs.length) : 0 ≤ count (fs.take k) ∧ count (fs.take k) ≤ 2 * k := by
  induction k with
  | zero => simp [count]
  | succ k ih =>
    have hf : fs[k]? = some fs[k] := List.getElem?_eq_getElem _
    have := ih (by omega)
    have := cntA_bd fs[k]
    rw [count_snoc fs k _ hf]; omega

set_option maxHeartbeats 2000000 in
set_option maxRecDepth 100000 in
theorem saved_any (w : World) (v : Value) (fs : List Fr) (hv : FrsV w v fs) (hf : Valid fs) :
    Calls Try.prog 11 #[.agg #[.int .i64 4, v]] w fun e w' => e = .returned (.int .i64 (-(fs.length : Int) + count fs)) ∧ Below w.heap.size w w' := by
  obtain ⟨A, c, rfl, hc, hm⟩ := hv.form
  have HB := Lib.hid (Below.refl w.heap.size w)
  have hn4 := hf.1
  have hv0 := Lib.hid hv
  obtain ⟨n, hn'⟩ : ∃ n, n = fs.length := ⟨_, rfl⟩
  rw [← hn'] at hn4 hv hc hv0 ⊢
  have HN := Lib.hid hn'
  have HF := Lib.hid hf
  clear hn' hf
  go_enter Try.func11, Try.ntmps11
  go_wp2_with (first | ((go_at_call 21); (with_reducible refine (check_one _ _ fs (hv0.out.below (by repeat (with_reducible first | exact HB.out | exact Below.refl _ _ | apply bA | apply bD | apply bN | refine bS ?_ (by first | assumption | (simp only []; omega) | omega)))) HF.out).mono ?_); rintro e w1 ⟨rfl, hb1⟩; have HB1 := Lib.hid (bT (w := w) ((by repeat (with_reducible first | exact HB.out | exact Below.refl _ _ | apply bA | apply bD | apply bN | refine bS ?_ (by first | assumption | (simp only []; omega) | omega)))) hb1); clear HB; have HB := HB1; clear HB1; have hx0 := cell_keep (a := ⟨w.heap.size, 0, none⟩) (v := .int .i64 4) hb1 (by first | exact hx0 | go_simp); have hx1 := cell_keep (a := ⟨w.heap.size, 1, none⟩) (v := .slice A n c) hb1 (by first | exact hx1 | go_simp); clear hb1))
  go_loopw [3, 18] (fun s i wr => ∃ k : Nat, k ≤ n ∧ i = .int .i64 k ∧ s = .int .i64 (-(n : Int) + count (fs.take k)) ∧ Below w.heap.size w wr) (fun _ i _ => n - (intOf i).toNat)
  case atStart => exact ⟨0, Nat.zero_le _, rfl, by simp [count], (by repeat (with_reducible first | exact HB.out | exact Below.refl _ _ | apply bA | apply bD | apply bN | refine bS ?_ (by first | assumption | (simp only []; omega) | omega)))⟩
  case round =>
    obtain ⟨k, hk, rfl, rfl, hb⟩ := hrel
    have hv' := hv.below hb
    clear HB; have HB := Lib.hid hb; clear hb hx0 hx1
    by_cases hlt : k < n
    · obtain ⟨f, hf⟩ : ∃ f, fs[k]? = some f := ⟨fs[k]'(by rw [← HN.out]; exact hlt), List.getElem?_eq_getElem _⟩
      obtain ⟨g, v0, v1, rfl, hg, b0, b1, h0, h1, h2, h3, h4⟩ := hv'.at_ hf
      obtain ⟨A0, c0, rfl, _, _⟩ := b0.form
      obtain ⟨A1, c1, rfl, _, _⟩ := b1.form
      have hs := Lib.hid (count_snoc fs k f hf)
      have hca := Lib.hid (show cntA f = (if absB f.a.slot f.a.data.length then 0 else 1) + (if absB f.b.slot f.b.data.length then 0 else 1) from rfl)
      obtain ⟨bd1, bd2⟩ := count_bd fs k (by rw [← HN.out]; exact hk)
      clear hv hv' b0 b1 hf
      cases ha : absB f.a.slot f.a.data.length
      all_goals
        cases hb : absB f.b.slot f.b.data.length
        all_goals
          have HE := Lib.hid (show cntA f = _ by rw [hca.out, ha, hb])
          go_wp2
          refine wp_loop_rounds 3 ?_; rw [rounds_succ]
          go_wp2_with (first | ((go_at_call 23); (with_reducible refine (absent_any _ _ _ _ _).mono ?_); rintro e w1 ⟨rfl, rfl⟩))
          rw [rounds_succ]
          go_wp2_with (first | ((go_at_call 23); (with_reducible refine (absent_any _ _ _ _ _).mono ?_); rintro e w1 ⟨rfl, rfl⟩))
          rw [rounds_succ]
          go_wp2
          go_roundw
          case rel => exact ⟨k + 1, by omega, by go_num, (by rw [hs.out, HE.out]; simp; try omega), (by repeat (with_reducible first | exact HB.out | exact Below.refl _ _ | apply bA | apply bD | apply bN | refine bS ?_ (by first | assumption | (simp only []; omega) | omega)))⟩
          case measure => simp [intOf]; omega
    · go_wp2
      go_ret
      have e : k = n := by omega
      exact ⟨ret_int (by rw [e, HN.out, List.take_length]), (by repeat (with_reducible first | exact HB.out | exact Below.refl _ _ | apply bA | apply bD | apply bN | refine bS ?_ (by first | assumption | (simp only []; omega) | omega)))⟩
end Go.Proofs.Ytfdmmbalfjcehaa
