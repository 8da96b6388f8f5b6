/- Contracts of pool.find. -/
import Derived.Test.YtfdmmbalfjcehaaPa
namespace Go.Proofs.Ytfdmmbalfjcehaa
open Go.RowKit
set_option linter.unusedVariables false
theorem idx0 (a b c d : Value) (w : World) : (Instr.index 53 (.agg #[a, b, c, d]) (.int .i64 0)).run Try.prog w = .ok (.agg #[a, b]) w := by kernel_rfl
theorem idx1 (a b c d : Value) (w : World) : (Instr.index 53 (.agg #[a, b, c, d]) (.int .i64 1)).run Try.prog w = .ok (.agg #[c, d]) w := by kernel_rfl
attribute [local go_sem] lt_more lt_more2 lt_more3 lt_more4 lt_more5 lt_more6 lt_more7 lt_more8 idx0 idx1

def It.isB (x : It) (s : Int) : Bool := !absB x.slot x.data.length && x.slot == s
def findFrom : List Fr → Nat → Int → Int × Int
  | [], _, _ => (-1, -1)
  | f :: r, k, s => if f.a.isB s then ((k : Int), 0) else if f.b.isB s then ((k : Int), 1) else findFrom r (k + 1) s

theorem find_hitA (fs : List Fr) (k0 k : Nat) (s : Int) (f : Fr) (hf : fs[k]? = some f) (ha : f.a.isB s = true) (hp : findFrom fs k0 s = findFrom (fs.drop k) (k0 + k) s) : findFrom fs k0 s = (((k0 + k : Nat) : Int), 0) := by
  obtain ⟨hk, rfl⟩ := List.getElem?_eq_some_iff.1 hf
  rw [hp, List.drop_eq_getElem_cons hk, findFrom, if_pos ha]
theorem find_hitB (fs : List Fr) (k0 k : Nat) (s : Int) (f : Fr) (hf : fs[k]? = some f) (ha : f.a.isB s = false) (hb : f.b.isB s = true) (hp : findFrom fs k0 s = findFrom (fs.drop k) (k0 + k) s) : findFrom fs k0 s = (((k0 + k : Nat) : Int), 1) := by
  obtain ⟨hk, rfl⟩ := List.getElem?_eq_some_iff.1 hf
  rw [hp, List.drop_eq_getElem_cons hk, findFrom, if_neg (by rw [ha]; simp), if_pos hb]
theorem find_miss (fs : List Fr) (k0 k : Nat) (s : Int) (f : Fr) (hf : fs[k]? = some f) (ha : f.a.isB s = false) (hb : f.b.isB s = false) (hp : findFrom fs k0 s = findFrom (fs.drop k) (k0 + k) s) : findFrom fs k0 s = findFrom (fs.drop (k + 1)) (k0 + (k + 1)) s := by
  obtain ⟨hk, rfl⟩ := List.getElem?_eq_some_iff.1 hf
  rw [hp, List.drop_eq_getElem_cons hk, findFrom, if_neg (by rw [ha]; simp), if_neg (by rw [hb]; simp)]; rfl
theorem ret_two {a b c d : Int} (h : (a, b) = (c, d)) : Ending.returned (.tuple #[.int .i64 a, .int .i64 b]) = .returned (.tuple #[.int .i64 c, .int .i64 d]) := by injection h with h1 h2; rw [h1, h2]

theorem isB_cases (x : It) (s : Int) : (absB x.slot x.data.length = true ∧ x.isB s = false) ∨ (absB x.slot x.data.length = false ∧ (x.slot == s) = false ∧ x.isB s = false) ∨ (absB x.slot x.data.length = false ∧ (x.slot == s) = true ∧ x.isB s = true) := by
  unfold It.isB
  cases absB x.slot x.data.length <;> cases h : (x.slot == s) <;> simp

set_option maxRecDepth 100000 in
theorem find_any (w : World) (v : Value) (fs : List Fr) (s : Int) (hv : FrsV w v fs) (hn : fs.length ≤ 1000) :
    Calls Try.prog 34 #[.agg #[.int .i64 4, v], .int .i64 s] w fun e w' =>
      e = .returned (.tuple #[.int .i64 (findFrom fs 0 s).1, .int .i64 (findFrom fs 0 s).2]) ∧ Below w.heap.size w w' := by
  obtain ⟨A, c, rfl, hc, hm⟩ := hv.form
  have HB := Lib.hid (Below.refl w.heap.size w)
  obtain ⟨n, hn'⟩ : ∃ n, n = fs.length := ⟨_, rfl⟩
  rw [← hn'] at hn hv hc ⊢
  have HN := Lib.hid hn'
  clear hn'
  go_enter Try.func34, Try.ntmps34
  go_wp2
  go_loopw [13] (fun i wr => ∃ k : Nat, k ≤ n ∧ i = .int .i64 k ∧ Below w.heap.size w wr ∧ Hid (findFrom fs 0 s = findFrom (fs.drop k) (0 + k) s)) (fun i _ => n - (intOf i).toNat)
  case atStart => exact ⟨0, Nat.zero_le _, rfl, (by repeat (with_reducible first | exact HB.out | exact Below.refl _ _ | apply bA | apply bD | apply bN | refine bS ?_ (by first | assumption | (simp only []; omega) | omega))), Lib.hid rfl⟩
  case round =>
    obtain ⟨k, hk, rfl, hb, hp⟩ := hrel
    have hv' := hv.below hb
    clear HB; have HB := Lib.hid hb; clear hb
    by_cases hlt : k < n
    · obtain ⟨f, hf⟩ : ∃ f, fs[k]? = some f := ⟨fs[k]'(by rw [← HN.out]; exact hlt), List.getElem?_eq_getElem _⟩
      obtain ⟨g, v0, v1, rfl, hg, b0, b1, h0, h1, h2, h3, h4⟩ := hv'.at_ hf
      obtain ⟨A0, c0, rfl, _, _⟩ := b0.form
      obtain ⟨A1, c1, rfl, _, _⟩ := b1.form
      have HF := Lib.hid hf
      clear hv hv' b0 b1 hf
      have kb := Lib.hid (isB_cases f.b s)
      rcases isB_cases f.a s with ⟨a1, a2⟩ | ⟨a1, a2, a3⟩ | ⟨a1, a2, a3⟩
      all_goals
        go_wp2
        refine wp_loop_rounds 3 ?_; rw [rounds_succ]
        go_wp2_with (first | ((go_at_call 23); (with_reducible refine (absent_any _ _ _ _ _).mono ?_); rintro e w1 ⟨rfl, rfl⟩))
      rotate_left 2
      · go_ret2
        exact ⟨ret_two (by rw [find_hitA fs 0 k s f HF.out a3 hp.out, Nat.zero_add]), (by repeat (with_reducible first | exact HB.out | exact Below.refl _ _ | apply bA | apply bD | apply bN | refine bS ?_ (by first | assumption | (simp only []; omega) | omega)))⟩
      all_goals
        rw [rounds_succ]
        rcases kb.out with ⟨b1, b2⟩ | ⟨b1, b2, b3⟩ | ⟨b1, b2, b3⟩
        all_goals
          go_wp2_with (first | ((go_at_call 23); (with_reducible refine (absent_any _ _ _ _ _).mono ?_); rintro e w1 ⟨rfl, rfl⟩))
        rotate_left 2
        · go_ret2
          exact ⟨ret_two (by rw [find_hitB fs 0 k s f HF.out (by assumption) b3 hp.out, Nat.zero_add]), (by repeat (with_reducible first | exact HB.out | exact Below.refl _ _ | apply bA | apply bD | apply bN | refine bS ?_ (by first | assumption | (simp only []; omega) | omega)))⟩
        all_goals
          rw [rounds_succ]
          go_wp2
          go_roundw
          case rel => exact ⟨k + 1, by omega, by go_num, (by repeat (with_reducible first | exact HB.out | exact Below.refl _ _ | apply bA | apply bD | apply bN | refine bS ?_ (by first | assumption | (simp only []; omega) | omega))), Lib.hid (find_miss fs 0 k s f HF.out (by assumption) (by assumption) hp.out)⟩
          case measure => simp [intOf]; omega
    · have e : k = n := by omega
      subst e
      go_wp2
      go_ret2
      exact ⟨ret_two (by rw [hp.out, List.drop_eq_nil_of_le (by rw [HN.out]; exact Nat.le_refl _)]; rfl), (by repeat (with_reducible first | exact HB.out | exact Below.refl _ _ | apply bA | apply bD | apply bN | refine bS ?_ (by first | assumption | (simp only []; omega) | omega)))⟩
end Go.Proofs.Ytfdmmbalfjcehaa
