/- Contracts of pool.Waste, Used, Saved, Find and zswap.Has over a valid pool. -/
import Derived.Test.YtfdmmbalfjcehaaPc
namespace Go.Proofs.Ytfdmmbalfjcehaa
open Go.RowKit
set_option linter.unusedVariables false
attribute [local go_sem] lt_more lt_more2 lt_more3 lt_more4 lt_more5 lt_more6 lt_more7 lt_more8 idx0 idx1

def Fr.free (f : Fr) : Int := 32 - f.a.data.length - f.b.data.length
def waste (fs : List Fr) : Int := (fs.map Fr.free).sum
theorem waste_snoc (fs : List Fr) (k : Nat) (f : Fr) (hf : fs[k]? = some f) : waste (fs.take (k + 1)) = waste (fs.take k) + f.free := by
  obtain ⟨hk, rfl⟩ := List.getElem?_eq_some_iff.1 hf
  simp [waste, List.take_succ_eq_append_getElem hk, -List.take_append_getElem]
theorem waste_bd {fs : List Fr} (h : Valid fs) (k : Nat) (hk : k ≤ fs.length) : 0 ≤ waste (fs.take k) ∧ waste (fs.take k) ≤ 32 * k := by
  induction k with
  | zero => simp [waste]
  | succ k ih =>
    have hf : fs[k]? = some fs[k] := List.getElem?_eq_getElem _
    have := ih (by omega)
    have ho := (valid_at h hf).2.2.2.2
    rw [waste_snoc fs k _ hf]; unfold Fr.free; omega

set_option maxHeartbeats 1000000 in
set_option maxRecDepth 100000 in
theorem waste_any (w : World) (v : Value) (fs : List Fr) (hv : FrsV w v fs) (hf : Valid fs) :
    Calls Try.prog 9 #[.agg #[.int .i64 4, v]] w fun e w' => e = .returned (.int .i64 (waste fs)) ∧ Below w.heap.size w w' := by
  obtain ⟨A, c, rfl, hc, hm⟩ := hv.form
  have HB := Lib.hid (Below.refl w.heap.size w)
  have hn4 := hf.1
  have hv0 := Lib.hid hv
  obtain ⟨n, hn'⟩ : ∃ n, n = fs.length := ⟨_, rfl⟩
  rw [← hn'] at hn4 hv hc hv0 ⊢
  have HN := Lib.hid hn'
  have HF := Lib.hid hf
  clear hn' hf
  go_enter Try.func9, Try.ntmps9
  go_wp2_with (first | ((go_at_call 21); (with_reducible refine (check_one _ _ fs (hv0.out.below (by repeat (with_reducible first | exact HB.out | exact Below.refl _ _ | apply bA | apply bD | apply bN | refine bS ?_ (by first | assumption | (simp only []; omega) | omega)))) HF.out).mono ?_); rintro e w1 ⟨rfl, hb1⟩; have HB1 := Lib.hid (bT (w := w) ((by repeat (with_reducible first | exact HB.out | exact Below.refl _ _ | apply bA | apply bD | apply bN | refine bS ?_ (by first | assumption | (simp only []; omega) | omega)))) hb1); clear HB; have HB := HB1; clear HB1; obtain ⟨hc1, hf1, hl1⟩ := bc3 hb1; clear hb1))
  go_loopw [3, 12] (fun s i wr => ∃ k : Nat, k ≤ n ∧ i = .int .i64 k ∧ s = .int .i64 (waste (fs.take k)) ∧ Below w.heap.size w wr) (fun _ i _ => n - (intOf i).toNat)
  case atStart => exact ⟨0, Nat.zero_le _, rfl, rfl, (by repeat (with_reducible first | exact HB.out | exact Below.refl _ _ | apply bA | apply bD | apply bN | refine bS ?_ (by first | assumption | (simp only []; omega) | omega)))⟩
  case round =>
    obtain ⟨k, hk, rfl, rfl, hb⟩ := hrel
    have hv' := hv.below hb
    clear HB; have HB := Lib.hid hb; clear hb hc1 hf1 hl1
    by_cases hlt : k < n
    · obtain ⟨f, hf⟩ : ∃ f, fs[k]? = some f := ⟨fs[k]'(by rw [← HN.out]; exact hlt), List.getElem?_eq_getElem _⟩
      obtain ⟨g, v0, v1, rfl, hg, b0, b1, h0, h1, h2, h3, h4⟩ := hv'.at_ hf
      obtain ⟨A0, c0, rfl, _, _⟩ := b0.form
      obtain ⟨A1, c1, rfl, _, _⟩ := b1.form
      have ho := (valid_at HF.out hf).2.2.2.2
      have hs := Lib.hid (waste_snoc fs k f hf)
      obtain ⟨bd1, bd2⟩ := waste_bd HF.out k (by rw [← HN.out]; exact hk)
      clear hv hv' b0 b1 hf
      go_wp2_with (first | ((go_at_call 22); (with_reducible refine (rest_any _ _ _ _ _ _ _ _ _ _ (by omega) (by omega)).mono ?_); rintro e w1 ⟨rfl, rfl⟩))
      go_roundw
      case rel => exact ⟨k + 1, by omega, by go_num, by rw [hs.out]; rfl, (by repeat (with_reducible first | exact HB.out | exact Below.refl _ _ | apply bA | apply bD | apply bN | refine bS ?_ (by first | assumption | (simp only []; omega) | omega)))⟩
      case measure => simp [intOf]; omega
    · go_wp2
      go_ret
      have e : k = n := by omega
      exact ⟨ret_int (by rw [e, HN.out, List.take_length]), (by repeat (with_reducible first | exact HB.out | exact Below.refl _ _ | apply bA | apply bD | apply bN | refine bS ?_ (by first | assumption | (simp only []; omega) | omega)))⟩
end Go.Proofs.Ytfdmmbalfjcehaa
