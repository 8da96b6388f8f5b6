/- Contract of compress.Unpack, at encodings that are kept. -/
import Derived.Test.YtfdmmbalfjcehaaDb
namespace Go.Proofs.Ytfdmmbalfjcehaa
open Go.RowKit
set_option linter.unusedVariables false
set_option linter.unusedSimpArgs false
attribute [local go_sem] lt_more lt_more2 lt_more3 lt_more4 lt_more5 lt_more6 lt_more7 lt_more8

theorem RE.two {d p : List UInt8} (h : RE d p) (hp : p.length = 32) : 1 ≤ d.length := by
  cases h with
  | nil => simp at hp
  | run => simp
theorem ME.two {d p : List UInt8} (h : ME [] d p) : 1 ≤ d.length := by
  cases h with
  | done _ h => simp at h
  | lit => simp
  | copy => simp
theorem byR32 {w : World} {v : Value} {l : List UInt8} (h : ByR w v l) (hl : l.length = 32) : ∃ A c, v = .slice A 32 c := by
  obtain ⟨A, c, e⟩ := h.form
  rw [hl] at e
  exact ⟨A, c, e⟩

set_option maxHeartbeats 8000000 in
set_option maxRecDepth 100000 in
theorem unpack_any (w : World) (v : Value) (d p : List UInt8) (hv : ByV w v d) (he : Enc d p) :
    Calls Try.prog 26 #[v] w fun e w' => (∃ v', e = .returned (.tuple #[v', .int .i64 0]) ∧ ByR w' v' p) ∧ Below w.heap.size w w' := by
  have HB := Lib.hid (Below.refl w.heap.size w)
  cases he with
  | fill b =>
    obtain ⟨g, c, rfl, h1, h2, hg, hc⟩ := page_at hv (by simp)
    have hc2 : 2 ≤ c := h1
    have c0 : w.cell? ⟨g, 0, none⟩ = some (.int .u8 0) := hc 0 0 rfl
    have c1 : w.cell? ⟨g, 1, none⟩ = some (bc b) := hc 1 b rfl
    have C1 := Lib.hid c1
    have q1 : ¬ c = 1 := by omega
    have q2 : (1 : Int) ≤ c := by omega
    have q3 : (2 : Int) ≤ c := by omega
    clear hv hc c1 h1
    simp only [List.length_cons, List.length_nil, Nat.zero_add]
    go_enter Try.func26, Try.ntmps26
    go_wp2_with
      ((go_at_call 36)
       refine (repeat_32 _ g 1 (c - 1) b C1.out).mono ?_
       rintro e w1 ⟨⟨v1, rfl, hr1⟩, hb1⟩
       obtain ⟨A1, c1, rfl⟩ := byR32 hr1 (by simp)
       have HR1 := Lib.hid hr1
       have HB1 := Lib.hid hb1
       clear hr1 hb1)
    go_ret2
    exact ⟨⟨_, rfl, HR1.out⟩, HB1.out⟩
  | runs d p hre hp =>
    have h2d := hre.two hp
    obtain ⟨g, c, rfl, h1, h2, hg, hc⟩ := page_at hv (by simp)
    obtain ⟨m, hm⟩ : ∃ m, m = (1 :: d).length := ⟨_, rfl⟩
    rw [← hm] at h1 ⊢
    have hm2 : 2 ≤ m := by rw [hm]; simp; omega
    have c0 : w.cell? ⟨g, 0, none⟩ = some (.int .u8 1) := hc 0 1 rfl
    have HD := Lib.hid (byR_drop (k := 1) hm.symm (by omega) h1 h2 hg (fun j u hu => by rw [Nat.zero_add]; exact hc j u hu))
    have q1 : ¬ c = 1 := by omega
    have q2 : (1 : Int) ≤ c := by omega
    have q3 : (1 : Int) ≤ m := by omega
    have q4 : (0 : Int) < m := by omega
    have q5 : (m : Int) ≤ c := by omega
    have q6 : ((m : Int) == 0) = false := by simp; omega
    have HE := Lib.hid hre
    have HP := Lib.hid hp
    clear hv hc hm h2d hre hp
    go_enter Try.func26, Try.ntmps26
    go_wp2_with
      ((go_at_call 41)
       refine (unpackRuns_any _ _ d p (by have h := HD.out; rw [if_neg q1] at h; exact h) HE.out HP.out).mono ?_
       rintro e w1 ⟨⟨v1, rfl, hr1⟩, hb1⟩
       obtain ⟨A1, c1, rfl⟩ := byR32 hr1.toR HP.out
       have HR1 := Lib.hid hr1
       have HB1 := Lib.hid hb1
       clear hr1 hb1)
    go_ret2
    exact ⟨⟨_, rfl, HR1.out.toR⟩, HB1.out⟩
  | mats d p hre hp =>
    have h2d := hre.two
    obtain ⟨g, c, rfl, h1, h2, hg, hc⟩ := page_at hv (by simp)
    obtain ⟨m, hm⟩ : ∃ m, m = (2 :: d).length := ⟨_, rfl⟩
    rw [← hm] at h1 ⊢
    have hm2 : 2 ≤ m := by rw [hm]; simp; omega
    have c0 : w.cell? ⟨g, 0, none⟩ = some (.int .u8 2) := hc 0 2 rfl
    have HD := Lib.hid (byR_drop (k := 1) hm.symm (by omega) h1 h2 hg (fun j u hu => by rw [Nat.zero_add]; exact hc j u hu))
    have q1 : ¬ c = 1 := by omega
    have q2 : (1 : Int) ≤ c := by omega
    have q3 : (1 : Int) ≤ m := by omega
    have q4 : (0 : Int) < m := by omega
    have q5 : (m : Int) ≤ c := by omega
    have q6 : ((m : Int) == 0) = false := by simp; omega
    have HE := Lib.hid hre
    have HP := Lib.hid hp
    clear hv hc hm h2d hre hp
    go_enter Try.func26, Try.ntmps26
    go_wp2_with
      ((go_at_call 42)
       refine (unpackMatches_any _ _ d p (by have h := HD.out; rw [if_neg q1] at h; exact h) HE.out).mono ?_
       rintro e w1 ⟨⟨v1, rfl, hr1⟩, hb1⟩
       obtain ⟨A1, c1, rfl⟩ := byR32 hr1.toR HP.out
       have HR1 := Lib.hid hr1
       have HB1 := Lib.hid hb1
       clear hr1 hb1)
    go_ret2
    exact ⟨⟨_, rfl, HR1.out.toR⟩, HB1.out⟩
end Go.Proofs.Ytfdmmbalfjcehaa
