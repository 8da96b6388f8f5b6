/- Contract of dStored. -/
import Derived.Test.YtfdmmbalfjcehaaGb
namespace Go.Proofs.Ytfdmmbalfjcehaa
open Go.RowKit
set_option linter.unusedVariables false
set_option linter.unusedSimpArgs false
attribute [local go_sem] lt_more lt_more2 lt_more3 lt_more4 lt_more5 lt_more6 lt_more7 lt_more8

def stored (pages : List (List UInt8)) : Nat := (pages.map fun p => if p = [] then 0 else 1).sum
theorem stored_snoc {pages : List (List UInt8)} {k : Nat} {p : List UInt8} (h : pages[k]? = some p) : stored (pages.take (k + 1)) = stored (pages.take k) + if p = [] then 0 else 1 := by
  obtain ⟨hk, rfl⟩ := List.getElem?_eq_some_iff.1 h
  unfold stored
  rw [List.take_succ_eq_append_getElem hk, List.map_append, List.sum_append]
  simp
theorem stored_le (pages : List (List UInt8)) : stored pages ≤ pages.length := by
  unfold stored
  induction pages with
  | nil => simp
  | cons p r ih => rw [List.map_cons, List.sum_cons, List.length_cons]; split <;> omega

set_option maxHeartbeats 8000000 in
set_option maxRecDepth 100000 in
theorem stored_any (w : World) (vs : Array Value) (pages : List (List UInt8)) (hv : PgV w vs pages) (hl : pages.length = 9) (hp : ∀ p ∈ pages, p = [] ∨ p.length = 32) :
    Calls Try.prog 10 #[.agg vs] w fun e w' => e = .returned (.int .i64 (stored pages)) ∧ Below w.heap.size w w' := by
  have HB := Lib.hid (Below.refl w.heap.size w)
  have HV := Lib.hid hv
  have HL := Lib.hid hl
  have HP := Lib.hid hp
  clear hv hl hp
  go_enter Try.func10, Try.ntmps10
  go_wp2
  go_loop [3, 4] (fun m i => ∃ k : Nat, k ≤ 9 ∧ i = .int .i64 k ∧ m = .int .i64 (stored (pages.take k))) (fun _ i => 9 - (intOf i).toNat)
  case atStart => exact ⟨0, by omega, rfl, rfl⟩
  case round =>
    obtain ⟨k, hk, rfl, rfl⟩ := hrel
    by_cases hlt : k < 9
    · have d1 : decide ((k : Int) < 9) = true := decide_eq_true (by omega)
      have i1 : (0 : Int) ≤ k := by omega
      have i2 : (k : Int) < 9 := by omega
      obtain ⟨p, hp⟩ : ∃ p, pages[k]? = some p := ⟨pages[k]'(by have := HL.out; omega), List.getElem?_eq_getElem _⟩
      have hvs : vs[k]? = some (vs[k]'(by rw [HV.out.1]; exact hlt)) := Array.getElem?_eq_getElem _
      obtain ⟨A, c, he, _, _⟩ := (HV.out.2 k _ p hvs hp).form
      rw [he] at hvs
      have hc : (w.alloc (.cells vs 28)).cell? ⟨w.heap.size, k, none⟩ = some (.slice A p.length c) := by
        rw [cell_of_row _ _ k _ 28 (0, 0) (heap_alloc_new w _)]; exact hvs
      have hs := stored_snoc hp
      have hs9 : stored (pages.take k) ≤ 9 := Nat.le_trans (stored_le _) (by rw [List.length_take]; omega)
      obtain ⟨m, hm⟩ : ∃ m, m = stored (pages.take k) := ⟨_, rfl⟩
      rw [← hm] at hs hs9 ⊢
      have hw : IntKind.i64.wrap ((m : Int) + 1) = (m : Int) + 1 := IntWalk.i64_in _ (by omega)
      clear hvs he
      by_cases hpe : p = []
      · rw [hpe] at hc
        rw [if_pos hpe] at hs
        have HS := Lib.hid hs
        clear hs hp hpe hm
        simp only [List.length_nil] at hc
        go_wp2
        go_round
        case rel => exact ⟨k + 1, by omega, by go_num, by rw [HS.out]; rfl⟩
        case measure => simp [intOf]; omega
      · have hpl : p.length = 32 := by
          rcases HP.out p (List.mem_of_getElem? hp) with h | h
          · exact (hpe h).elim
          · exact h
        rw [hpl] at hc
        rw [if_neg hpe] at hs
        have HS := Lib.hid hs
        clear hs hp hpe hpl hm
        go_wp2
        go_round
        case rel => exact ⟨k + 1, by omega, by go_num, by rw [HS.out]; go_num⟩
        case measure => simp [intOf]; omega
    · have d1 : decide ((k : Int) < 9) = false := decide_eq_false (by omega)
      have e : k = 9 := by omega
      subst e
      have hs : pages.take 9 = pages := List.take_of_length_le (by have := HL.out; omega)
      have HS := Lib.hid hs
      clear hs
      go_wp2
      go_ret
      exact ⟨ret_int (by rw [HS.out]), bA HB.out⟩
end Go.Proofs.Ytfdmmbalfjcehaa
