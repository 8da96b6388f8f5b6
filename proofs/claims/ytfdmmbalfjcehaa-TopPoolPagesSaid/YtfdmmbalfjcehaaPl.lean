/- Contracts of slices.Insert at the end, of pool.none and of the closure that tells a fault. -/
import Derived.Test.YtfdmmbalfjcehaaPj
import Derived.Test.YtfdmmbalfjcehaaPk
namespace Go.Proofs.Ytfdmmbalfjcehaa
open Go.RowKit
set_option linter.unusedVariables false
attribute [local go_sem] lt_more lt_more2 lt_more3 lt_more4 lt_more5 lt_more6 lt_more7 lt_more8 idx0 idx1

theorem none_any (w : World) : Calls Try.prog 45 #[] w fun e w' => e = .returned (.agg #[.int .i64 (-1), .slice none 0 0]) ∧ Below w.heap.size w w' := by
  have HB := Lib.hid (Below.refl w.heap.size w)
  go_enter Try.func45, Try.ntmps45
  go_wp2
  exact bodyPost_ret (v := .agg #[.int .i64 (-1), .slice none 0 0]) (by simp [results, Try.results45, go_sem]) rfl ⟨rfl, (by repeat (with_reducible first | exact HB.out | exact Below.refl _ _ | apply bA | apply bD | apply bN | refine bS ?_ (by first | assumption | (simp only []; omega) | omega)))⟩

theorem fail_any (w : World) (x : Int) : Calls Try.prog 47 #[.int .i64 x] w fun e w' => e = .returned (.tuple #[.agg #[.int .i64 0, .slice none 0 0], .int .i64 0, .int .i64 x]) ∧ Below w.heap.size w w' := by
  have HB := Lib.hid (Below.refl w.heap.size w)
  go_enter Try.func47, Try.ntmps47
  go_wp2
  exact bodyPost_ret (v := .tuple #[.agg #[.int .i64 0, .slice none 0 0], .int .i64 0, .int .i64 x]) (by simp [results, Try.results47, go_sem]) rfl ⟨rfl, (by repeat (with_reducible first | exact HB.out | exact Below.refl _ _ | apply bA | apply bD | apply bN | refine bS ?_ (by first | assumption | (simp only []; omega) | omega)))⟩

set_option maxHeartbeats 1000000 in
set_option maxRecDepth 100000 in
theorem insert_end (w : World) (base : Nat) (A : Option Addr) (n c : Nat) (xs : List Value) (V cV : Nat) (news : List Value) (ho : w.ownsRow base 55 5 (.slice A n c) n xs) (hn : n ≤ 1000)
    (hl : news.length = 5) (hnews : ∀ j u, news[j]? = some u → w.cell? ⟨V, j, none⟩ = some u) (h1 : ∀ u ∈ news, u.oneCell' = true) (hb : base ≤ w.heap.size) :
    Calls Try.prog 50 #[.slice A n c, .int .i64 n, .slice (some ⟨V, 0, none⟩) 1 cV] w fun e w' => ∃ v', e = .returned v' ∧ w'.ownsRow base 55 5 v' (n + 1) (xs ++ news) ∧ w.grownBy w' (Value.slice A n c).ownBlock := by
  obtain ⟨i0, hi, hz0, hz1, hz2⟩ := info_parts info55
  obtain ⟨A', c', hv, h2, h3, hnn, hs⟩ := own_form (own_mono ho (Nat.zero_le _))
  obtain ⟨rfl, rfl⟩ : A = A' ∧ c = c' := by injection hv with a b c; exact ⟨a, c⟩
  have HO := Lib.hid ho
  have HW := Lib.hid hnews
  have H1 := Lib.hid h1
  have HL := Lib.hid hl
  have hni : (n : Int) ≤ c := by omega
  clear ho hnews h1 hl hv hnn hs
  go_enter Try.func50, Try.ntmps50
  go_wp2_with (at_builtin; refine wpList_append_own _ rfl _ _ 24 rfl base 55 i0 _ 5 72 Try.underlying24 hi hz0 hz1 hz2 rfl (by decide) _ _ _ rfl HO.out ⟨V, 0, none⟩ 1 cV news rfl (by rw [HL.out]) (fun j u hj => by rw [add_zero_add]; exact HW.out j u hj) H1.out (by unfold maxLen; omega) (by omega) hb ?_)
  all_goals
    intro v' w1 hown hgrow hnil
    have HO' := Lib.hid hown
    have HG := Lib.hid hgrow
    clear hown hnil hgrow
    go_wp2
    go_ret
    exact ⟨v', rfl, HO'.out, by cases A <;> exact HG.out⟩
end Go.Proofs.Ytfdmmbalfjcehaa
