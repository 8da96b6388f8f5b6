/- Contracts of pool.fit and pool.Fits over a valid pool. -/
import Derived.Test.YtfdmmbalfjcehaaPf
import Derived.BigGuardPart
import Derived.Deep.RegionWith
import Derived.Deep.RegionHeld3
namespace Go.Proofs.Ytfdmmbalfjcehaa
open Go.RowKit
set_option linter.unusedVariables false
attribute [local go_sem] lt_more lt_more2 lt_more3 lt_more4 lt_more5 lt_more6 lt_more7 lt_more8 idx0 idx1

def skipB (f : Fr) (size : Int) : Bool := (!absB f.a.slot f.a.data.length && !absB f.b.slot f.b.data.length) || decide (f.free < size)
def freeAt (fs : List Fr) (i : Nat) : Int := match fs[i]? with | some f => f.free | none => 0
def skipAt (fs : List Fr) (i : Nat) (size : Int) : Bool := match fs[i]? with | some f => skipB f size | none => true
def fitTo (fs : List Fr) (size : Int) : Nat → Int
  | 0 => -1
  | k + 1 => if skipAt fs k size then fitTo fs size k else if fitTo fs size k < 0 ∨ freeAt fs k < freeAt fs (fitTo fs size k).toNat then k else fitTo fs size k
theorem fitTo_bd (fs : List Fr) (size : Int) (k : Nat) : -1 ≤ fitTo fs size k ∧ fitTo fs size k < k := by
  induction k with
  | zero => simp [fitTo]
  | succ k ih => unfold fitTo; split; · omega
                 · split <;> omega
theorem fitTo_skip {fs : List Fr} {size : Int} {k : Nat} {f : Fr} (hf : fs[k]? = some f) (h : skipB f size = true) : fitTo fs size (k + 1) = fitTo fs size k := by
  rw [fitTo, if_pos (by simp [skipAt, hf, h])]
theorem fitTo_neg {fs : List Fr} {size : Int} {k : Nat} {f : Fr} (hf : fs[k]? = some f) (h : skipB f size = false) (hb : fitTo fs size k < 0) : fitTo fs size (k + 1) = k := by
  rw [fitTo, if_neg (by simp [skipAt, hf, h]), if_pos (.inl hb)]
theorem fitTo_less {fs : List Fr} {size : Int} {k m : Nat} {f f' : Fr} (hf : fs[k]? = some f) (h : skipB f size = false) (hb : fitTo fs size k = m) (hm : fs[m]? = some f') (hl : f.free < f'.free) : fitTo fs size (k + 1) = k := by
  rw [fitTo, if_neg (by simp [skipAt, hf, h]), if_pos (.inr (by rw [hb]; simp [freeAt, hf, hm, hl]))]
theorem fitTo_more {fs : List Fr} {size : Int} {k m : Nat} {f f' : Fr} (hf : fs[k]? = some f) (h : skipB f size = false) (hb : fitTo fs size k = m) (hm : fs[m]? = some f') (hl : ¬ f.free < f'.free) : fitTo fs size (k + 1) = m := by
  rw [fitTo, if_neg (by simp [skipAt, hf, h]), if_neg, hb]
  rintro (h1 | h1)
  · omega
  · rw [hb] at h1; simp [freeAt, hf, hm, hl] at h1

theorem wp_gen {P : Program} {c : Code} {Q : Exit → Act → World → Prop} {a : Act} {w0 : World} (S : World → Prop) (h : S w0) (k : ∀ w, S w → c.wp P Q a w) : c.wp P Q a w0 := k w0 h

set_option maxHeartbeats 4000000 in
set_option maxRecDepth 100000 in
theorem fit_any (w : World) (v : Value) (fs : List Fr) (size : Int) (hv : FrsV w v fs) (hf : Valid fs) :
    Calls Try.prog 46 #[.agg #[.int .i64 4, v], .int .i64 size] w fun e w' => e = .returned (.int .i64 (fitTo fs size fs.length)) ∧ Below w.heap.size w w' := by
  obtain ⟨A, c, rfl, hc, hm⟩ := hv.form
  have HB := Lib.hid (Below.refl w.heap.size w)
  have hn4 := hf.1
  obtain ⟨n, hn'⟩ : ∃ n, n = fs.length := ⟨_, rfl⟩
  rw [← hn'] at hn4 hv hc ⊢
  have HN := Lib.hid hn'
  have HF := Lib.hid hf
  clear hn' hf
  go_enter Try.func46, Try.ntmps46
  go_wp2
  go_loopw [5, 11] (fun b i wr => ∃ (k : Nat) (r : Int), k ≤ n ∧ i = .int .i64 k ∧ b = .int .i64 r ∧ Hid (r = fitTo fs size k) ∧ Below w.heap.size w wr ∧ wr.cell? ⟨w.heap.size, 1, none⟩ = some (.slice A n c)) (fun _ i _ => n - (intOf i).toNat)
  case atStart => exact ⟨0, -1, Nat.zero_le _, rfl, rfl, Lib.hid rfl, (by repeat (with_reducible first | exact HB.out | exact Below.refl _ _ | apply bA | apply bD | apply bN | refine bS ?_ (by first | assumption | (simp only []; omega) | omega))), by go_simp⟩
  case round =>
    obtain ⟨k, r, hk, rfl, rfl, hr, hb, hbox⟩ := hrel
    have hv' := hv.below hb
    have hbl : w.heap.size < wr.heap.size := World.block_lt_of_cell? _ _ hbox
    clear HB; have HB := Lib.hid hb; clear hb
    by_cases hlt : k < n
    · obtain ⟨f, hf⟩ : ∃ f, fs[k]? = some f := ⟨fs[k]'(by rw [← HN.out]; exact hlt), List.getElem?_eq_getElem _⟩
      have hbd := fitTo_bd fs size k
      rw [← hr.out] at hbd
      obtain ⟨hr1, hr2⟩ := hbd
      obtain ⟨g, v0, v1, rfl, hg, b0, b1, h0, h1, h2, h3, h4⟩ := hv'.at_ hf
      obtain ⟨A0, c0, rfl, _, _⟩ := b0.form
      obtain ⟨A1, c1, rfl, _, _⟩ := b1.form
      have HK := Lib.hid hf
      have ho := (valid_at HF.out hf).2.2.2.2
      have hfr : Hid (f.free = 32 - f.a.data.length - f.b.data.length) := Lib.hid rfl
      clear hv b0 b1 hf
      have hskip : (skipB f size = true ∧ (absB f.a.slot f.a.data.length = false ∧ absB f.b.slot f.b.data.length = false ∨ (absB f.a.slot f.a.data.length = true ∨ absB f.a.slot f.a.data.length = false ∧ absB f.b.slot f.b.data.length = true) ∧ (32 - f.a.data.length - f.b.data.length : Int) < size)) ∨
          (skipB f size = false ∧ (absB f.a.slot f.a.data.length = true ∨ absB f.a.slot f.a.data.length = false ∧ absB f.b.slot f.b.data.length = true) ∧ ¬ (32 - f.a.data.length - f.b.data.length : Int) < size) := by
        rw [← hfr.out]
        unfold skipB
        cases absB f.a.slot f.a.data.length <;> cases absB f.b.slot f.b.data.length <;> by_cases hz : f.free < size <;> simp [hz]
      rcases hskip with ⟨hs, hs2⟩ | ⟨hs, hs2, hs3⟩
      · have HS := Lib.hid hs
        clear hs hv'
        rcases hs2 with ⟨a1, a2⟩ | ⟨a1 | ⟨a1, a2⟩, a3⟩
        all_goals
          try have a4 : decide ((32 - f.a.data.length - f.b.data.length : Int) < size) = true := decide_eq_true a3
          go_wp2_with (first | ((go_at_call 23); (with_reducible refine (absent_any _ _ _ _ _).mono ?_); rintro e w1 ⟨rfl, rfl⟩) | ((go_at_call 22); (with_reducible refine (rest_any _ _ _ _ _ _ _ _ _ _ (by omega) (by omega)).mono ?_); rintro e w1 ⟨rfl, rfl⟩))
          go_roundw
          case rel => exact ⟨k + 1, r, by omega, by go_num, rfl, Lib.hid (by rw [fitTo_skip HK.out HS.out, hr.out]), (by repeat (with_reducible first | exact HB.out | exact Below.refl _ _ | apply bA | apply bD | apply bN | refine bS ?_ (by first | assumption | (simp only []; omega) | omega))), by go_simp⟩
          case measure => simp [intOf]; omega
      · have HS := Lib.hid hs
        clear hs
        have a4 : decide ((32 - f.a.data.length - f.b.data.length : Int) < size) = false := decide_eq_false hs3
        by_cases hneg : r < 0
        · have d1 : decide (r < 0) = true := decide_eq_true hneg
          clear hv'
          rcases hs2 with a1 | ⟨a1, a2⟩
          all_goals
            go_wp2_with (first | ((go_at_call 23); (with_reducible refine (absent_any _ _ _ _ _).mono ?_); rintro e w1 ⟨rfl, rfl⟩) | ((go_at_call 22); (with_reducible refine (rest_any _ _ _ _ _ _ _ _ _ _ (by omega) (by omega)).mono ?_); rintro e w1 ⟨rfl, rfl⟩))
            go_quiet (fail)
            go_wp2
            go_roundw
            case rel => exact ⟨k + 1, k, by omega, by go_num, rfl, Lib.hid (by rw [fitTo_neg HK.out HS.out (by rw [← hr.out]; exact hneg)]), (by repeat (with_reducible first | exact HB.out | exact Below.refl _ _ | apply bA | apply bD | apply bN | refine bS ?_ (by first | assumption | (simp only []; omega) | omega))), by go_simp⟩
            case measure => simp [intOf]; omega
        · obtain ⟨m, rfl⟩ : ∃ m : Nat, r = m := ⟨r.toNat, by omega⟩
          obtain ⟨f', hf'⟩ : ∃ f, fs[m]? = some f := ⟨fs[m]'(by rw [← HN.out]; omega), List.getElem?_eq_getElem _⟩
          have HK' := Lib.hid hf'
          have ho' := (valid_at HF.out hf').2.2.2.2
          obtain ⟨g', v0', v1', hgg, _, b0', b1', h0', h1', h2', h3', h4'⟩ := hv'.at_ hf'
          obtain rfl : g = g' := by injection hgg with e; injection e
          obtain ⟨A0', c0', rfl, _, _⟩ := b0'.form
          obtain ⟨A1', c1', rfl, _, _⟩ := b1'.form
          have hfr' : Hid (f'.free = 32 - f'.a.data.length - f'.b.data.length) := Lib.hid rfl
          have d1 : decide ((m : Int) < 0) = false := decide_eq_false (by omega)
          clear hgg hv' b0' b1' hf'
          rcases hs2 with a1 | ⟨a1, a2⟩
          all_goals
            go_wp2_with (first | ((go_at_call 23); (with_reducible refine (absent_any _ _ _ _ _).mono ?_); rintro e w1 ⟨rfl, rfl⟩) | ((go_at_call 22); (with_reducible refine (rest_any _ _ _ _ _ _ _ _ _ _ (by omega) (by omega)).mono ?_); rintro e w1 ⟨rfl, rfl⟩))
            refine wp_gen (fun w' => w'.cell? ⟨wr.heap.size, 0, none⟩ = some (.int .i64 f.num) ∧ w'.cell? ⟨wr.heap.size, 1, none⟩ = some (.int .i64 f.a.slot) ∧ w'.cell? ⟨wr.heap.size, 2, none⟩ = some (.slice A0 f.a.data.length c0) ∧ w'.cell? ⟨wr.heap.size, 3, none⟩ = some (.int .i64 f.b.slot) ∧ w'.cell? ⟨wr.heap.size, 4, none⟩ = some (.slice A1 f.b.data.length c1) ∧ w'.cell? ⟨w.heap.size, 1, none⟩ = some (.slice (some ⟨g, 0, none⟩) n c) ∧ w'.cell? ⟨g, m * 5, none⟩ = some (.int .i64 f'.num) ∧ w'.cell? ⟨g, m * 5 + 1, none⟩ = some (.int .i64 f'.a.slot) ∧ w'.cell? ⟨g, m * 5 + 2, none⟩ = some (.slice A0' f'.a.data.length c0') ∧ w'.cell? ⟨g, m * 5 + 3, none⟩ = some (.int .i64 f'.b.slot) ∧ w'.cell? ⟨g, m * 5 + 4, none⟩ = some (.slice A1' f'.b.data.length c1') ∧ Below w.heap.size w w') ⟨by go_simp, by go_simp, by go_simp, by go_simp, by go_simp, by go_simp, by go_simp, by go_simp, by go_simp, by go_simp, by go_simp, (by repeat (with_reducible first | exact HB.out | exact Below.refl _ _ | apply bA | apply bD | apply bN | refine bS ?_ (by first | assumption | (simp only []; omega) | omega)))⟩ ?_
            intro w2 ⟨j0, j1, j2, j3, j4, j5, i0, i1, i2, i3, i4, jb⟩
            have l1 : wr.heap.size < w2.heap.size := World.block_lt_of_cell? _ _ j0
            have l2 : w.heap.size < w2.heap.size := World.block_lt_of_cell? _ _ j5
            have l3 : g < w2.heap.size := World.block_lt_of_cell? _ _ i0
            have q1 : (0 : Int) ≤ (m : Int) := by omega
            have q2 : (m : Int) < (n : Int) := by omega
            clear hbox hbl hg h0 h1 h2 h3 h4 h0' h1' h2' h3' h4' HB
            go_region_held3 (fun w' => w'.cell? ⟨wr.heap.size, 0, none⟩ = some (.int .i64 f.num) ∧ w'.cell? ⟨wr.heap.size, 1, none⟩ = some (.int .i64 f.a.slot) ∧ w'.cell? ⟨wr.heap.size, 2, none⟩ = some (.slice A0 f.a.data.length c0) ∧ w'.cell? ⟨wr.heap.size, 3, none⟩ = some (.int .i64 f.b.slot) ∧ w'.cell? ⟨wr.heap.size, 4, none⟩ = some (.slice A1 f.b.data.length c1) ∧ w'.cell? ⟨w.heap.size, 1, none⟩ = some (.slice (some ⟨g, 0, none⟩) n c) ∧ w'.cell? ⟨g, m * 5, none⟩ = some (.int .i64 f'.num) ∧ w'.cell? ⟨g, m * 5 + 1, none⟩ = some (.int .i64 f'.a.slot) ∧ w'.cell? ⟨g, m * 5 + 2, none⟩ = some (.slice A0' f'.a.data.length c0') ∧ w'.cell? ⟨g, m * 5 + 3, none⟩ = some (.int .i64 f'.b.slot) ∧ w'.cell? ⟨g, m * 5 + 4, none⟩ = some (.slice A1' f'.b.data.length c1') ∧ Below w.heap.size w w')
              (first | (refine ⟨by go_simp, by go_simp, by go_simp, by go_simp, by go_simp, by go_simp, by go_simp, by go_simp, by go_simp, by go_simp, by go_simp, ?_⟩; (repeat (with_reducible first | assumption | apply bA | apply bD))) | (go_split_ands; refine ⟨by go_simp, by go_simp, by go_simp, by go_simp, by go_simp, by go_simp, by go_simp, by go_simp, by go_simp, by go_simp, by go_simp, ?_⟩; (repeat (with_reducible first | assumption | apply bA | apply bD))))
              (((go_at_call 22); (with_reducible refine (rest_any _ _ _ _ _ _ _ _ _ _ (by omega) (by omega)).mono ?_); rintro e w1 ⟨rfl, rfl⟩))
            go_wp2
            all_goals
              go_roundw
              case rel =>
                first
                  | exact ⟨k + 1, k, by omega, by go_num, rfl, Lib.hid (by rw [fitTo_less HK.out HS.out hr.out.symm HK'.out (by rw [hfr.out, hfr'.out]; omega)]), (by repeat (with_reducible first | assumption | apply bA | apply bD)), by go_simp⟩
                  | exact ⟨k + 1, m, by omega, by go_num, rfl, Lib.hid (by rw [fitTo_more HK.out HS.out hr.out.symm HK'.out (by rw [hfr.out, hfr'.out]; omega)]), (by repeat (with_reducible first | assumption | apply bA | apply bD)), by go_simp⟩
              case measure => simp [intOf]; omega
    · go_wp2
      go_ret
      have e : k = n := by omega
      exact ⟨ret_int (by rw [hr.out, e, HN.out]), (by repeat (with_reducible first | exact HB.out | exact Below.refl _ _ | apply bA | apply bD | apply bN | refine bS ?_ (by first | assumption | (simp only []; omega) | omega)))⟩
end Go.Proofs.Ytfdmmbalfjcehaa
