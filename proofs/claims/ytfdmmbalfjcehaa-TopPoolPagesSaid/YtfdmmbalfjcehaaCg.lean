/- Contract of compress.Pack. -/
import Derived.Test.YtfdmmbalfjcehaaCf
namespace Go.Proofs.Ytfdmmbalfjcehaa
open Go.RowKit
set_option linter.unusedVariables false
set_option linter.unusedSimpArgs false
attribute [local go_sem] lt_more lt_more2 lt_more3 lt_more4 lt_more5 lt_more6 lt_more7 lt_more8

def bestF (l : List UInt8) : List UInt8 := if (packMatchesF l).length < (packRunsF l).length then packMatchesF l else packRunsF l
def packF (l : List UInt8) : List UInt8 := if filledB l = true then [0, l.getD 0 0] else if 33 < (bestF l).length then 3 :: l else bestF l

theorem packF_m {l : List UInt8} (hf : filledB l = false) (h1 : (packMatchesF l).length < (packRunsF l).length) (h2 : ¬ 33 < (packMatchesF l).length) : packF l = packMatchesF l := by
  unfold packF bestF; rw [if_pos h1, if_neg h2, if_neg (by rw [hf]; simp)]
theorem packF_r {l : List UInt8} (hf : filledB l = false) (h1 : ¬ (packMatchesF l).length < (packRunsF l).length) (h2 : ¬ 33 < (packRunsF l).length) : packF l = packRunsF l := by
  unfold packF bestF; rw [if_neg h1, if_neg h2, if_neg (by rw [hf]; simp)]
theorem packF_b1 {l : List UInt8} (hf : filledB l = false) (h1 : (packMatchesF l).length < (packRunsF l).length) (h2 : 33 < (packMatchesF l).length) : packF l = 3 :: l := by
  unfold packF bestF; rw [if_pos h1, if_pos h2, if_neg (by rw [hf]; simp)]
theorem packF_b2 {l : List UInt8} (hf : filledB l = false) (h1 : ¬ (packMatchesF l).length < (packRunsF l).length) (h2 : 33 < (packRunsF l).length) : packF l = 3 :: l := by
  unfold packF bestF; rw [if_neg h1, if_pos h2, if_neg (by rw [hf]; simp)]
theorem own_raw {w : World} {b : Nat} {v : Value} {l : List UInt8} (hl : l.length = 32) (h : w.ownsRow b 5 1 v (1 + 32) ([.int .u8 3] ++ l.map bc)) : ByV w v (3 :: l) := by
  have h2 := own_mono h (Nat.zero_le _)
  have e1 : (3 :: l).length = 1 + 32 := by rw [List.length_cons, hl]
  have e2 : (3 :: l).map bc = [.int .u8 3] ++ l.map bc := rfl
  unfold ByV
  rw [e1, e2]
  exact h2
theorem newsB {w W : World} {g : Nat} {l : List UInt8} (hb : Below w.heap.size w W) (hc : ∀ j u, l[j]? = some u → w.cell? ⟨g, j, none⟩ = some (bc u)) (hg : g < w.heap.size) :
    ∀ j u, (l.map bc)[j]? = some u → W.cell? ((⟨g, 0, none⟩ : Addr).add j) = some u := by
  intro j u hu
  rw [add_zero_add]
  rw [List.getElem?_map] at hu
  cases hx : l[j]? with
  | none => rw [hx] at hu; cases hu
  | some x => rw [hx] at hu; exact (hb.cell (p := ⟨g, j, none⟩) hg).trans ((hc j x hx).trans hu)

set_option maxHeartbeats 8000000 in
set_option maxRecDepth 100000 in
theorem pack_any (w : World) (v : Value) (l : List UInt8) (hv : ByV w v l) (hl : l.length = 32) :
    Calls Try.prog 7 #[v] w fun e w' => (∃ v', e = .returned (.tuple #[v', .int .i64 0]) ∧ ByV w' v' (packF l)) ∧ Below w.heap.size w w' := by
  obtain ⟨g, c, rfl, h1, h2, hg, hc⟩ := page_at hv (by omega)
  obtain ⟨i0, hi, hz0, hz1, hz2⟩ := info_parts info5
  have HB := Lib.hid (Below.refl w.heap.size w)
  have HV := Lib.hid hv
  rw [hl] at h1 HV ⊢
  have HC := Lib.hid hc
  have HL := Lib.hid hl
  clear hv hc hl
  cases hf : filledB l
  · have HF := Lib.hid hf
    have HA : ∀ W v l, ByV W v l → l.length = 32 → filledB l = false → Calls Try.prog 18 #[v] W fun e w' => e = .returned (.tuple #[.int .u8 0, .bool false]) ∧ Below W.heap.size W w' := fun W v l h1 h2 h3 => by
      have := filled_any W v l h1 h2
      rw [h3] at this
      exact this
    have HA' := Lib.hid HA
    clear HA hf
    go_enter Try.func7, Try.ntmps7
    go_wp2_with (first
      | ((go_at_call 18); (with_reducible refine (HA'.out _ _ l HV.out HL.out HF.out).mono ?_); rintro e w1 ⟨rfl, hb1⟩; (have HV1 := Lib.hid (HV.out.below hb1)); clear HB HV; (have HB := Lib.hid hb1); (have HV := HV1); clear HV1 hb1)
      | ((go_at_call 19); (with_reducible refine (packRuns_any _ _ l HV.out HL.out).mono ?_); rintro e w2 ⟨⟨v2, rfl, hr2⟩, hb2⟩; (have HV2 := Lib.hid (HV.out.below hb2)); (have HB2 := Lib.hid (bT (w := w) HB.out hb2)); clear HV HB; (have HV := HV2); (have HB := HB2); clear HV2 HB2; (obtain ⟨A2, c2, rfl, _, _⟩ := hr2.form); (have HR := Lib.hid hr2); clear hr2 hb2)
      | ((go_at_call 20); (with_reducible refine (packMatches_any _ _ l HV.out HL.out).mono ?_); rintro e w3 ⟨⟨v3, rfl, hr3⟩, hb3⟩; (have HR3 := Lib.hid (HR.out.below hb3)); (have HV3 := Lib.hid (HV.out.below hb3)); (have HB3 := Lib.hid (bT (w := w) HB.out hb3)); clear HV HB HR; (have HV := HV3); (have HB := HB3); (have HR := HR3); clear HV3 HB3 HR3; (obtain ⟨A3, c3, rfl, _, _⟩ := hr3.form); (have HM := Lib.hid hr3); clear hr3 hb3)
      | (at_builtin
         have HW := World.ownsRow_lit (base := w.heap.size) (e := 5) (size := 1) w3 #[.int .u8 3] 1 HB.out.size (by simp [maxLen]) rfl
         refine wpList_append_own _ rfl _ _ 27 rfl w.heap.size 5 i0 _ 1 1 Try.underlying27 hi hz0 hz1 hz2 rfl (by decide) _ 1 [.int .u8 3] rfl HW ⟨g, 0, none⟩ 32 c (l.map bc) rfl (by rw [List.length_map, HL.out]) (newsB (bA HB.out) HC.out hg) (bytes_one l) (by unfold maxLen; omega) (by omega) (by have := HB.out.size; simp only [size_alloc2]; omega) ?_
         intro v4 w4 hown4 hgrow4 hnil4
         have HO4 := Lib.hid hown4
         have HB4 := Lib.hid (Below.grown (B := w.heap.size) (a := w) (bA HB.out) hgrow4 (by have := HB.out.size; simp only [size_alloc2]; omega) (fun r hr => (HW.lt r hr).1))
         clear HW hown4 hgrow4 hnil4))
    all_goals
      go_ret2
      first
        | (refine ⟨⟨_, rfl, ?_⟩, HB4.out⟩
           rw [packF_b1 HF.out (by omega) (by omega)]
           exact own_raw HL.out HO4.out)
        | (refine ⟨⟨_, rfl, ?_⟩, HB4.out⟩
           rw [packF_b2 HF.out (by omega) (by omega)]
           exact own_raw HL.out HO4.out)
        | (refine ⟨⟨_, rfl, ?_⟩, HB.out⟩
           rw [packF_m HF.out (by omega) (by omega)]
           exact HM.out)
        | (refine ⟨⟨_, rfl, ?_⟩, HB.out⟩
           rw [packF_r HF.out (by omega) (by omega)]
           exact HR.out)
  · have HF := Lib.hid hf
    have HA : ∀ W v l, ByV W v l → l.length = 32 → filledB l = true → Calls Try.prog 18 #[v] W fun e w' => e = .returned (.tuple #[.int .u8 ((l.getD 0 0).toNat : Int), .bool true]) ∧ Below W.heap.size W w' := fun W v l h1 h2 h3 => by
      have := filled_any W v l h1 h2
      rw [h3] at this
      exact this
    have HA' := Lib.hid HA
    have HP := Lib.hid (show packF l = [0, l.getD 0 0] by unfold packF; rw [if_pos hf])
    clear HA hf
    obtain ⟨x, hx⟩ : ∃ x, x = l.getD 0 0 := ⟨_, rfl⟩
    rw [← hx] at HP
    have HX := Lib.hid hx
    clear hx
    go_enter Try.func7, Try.ntmps7
    go_wp2_with (first
      | ((go_at_call 18); (with_reducible refine (HA'.out _ _ l HV.out HL.out HF.out).mono ?_); (rw [← HX.out]); rintro e w1 ⟨rfl, hb1⟩; clear HB; (have HB := Lib.hid hb1); clear hb1))
    go_ret2
    refine ⟨⟨_, rfl, ?_⟩, bA HB.out⟩
    rw [HP.out]
    exact own_mono (World.ownsRow_lit (base := 0) (e := 5) (size := 1) _ #[.int .u8 0, .int .u8 (x.toNat : Int)] 2 (Nat.zero_le _) (by simp [maxLen]) rfl) (Nat.zero_le _)
end Go.Proofs.Ytfdmmbalfjcehaa
