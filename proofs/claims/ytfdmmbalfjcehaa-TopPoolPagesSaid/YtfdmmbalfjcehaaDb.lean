/- Contract of compress.unpackMatches, at encodings. -/
import Derived.Test.YtfdmmbalfjcehaaDm
import Derived.Deep.RegionHeld3
namespace Go.Proofs.Ytfdmmbalfjcehaa
open Go.RowKit
set_option linter.unusedVariables false
set_option linter.unusedSimpArgs false
attribute [local go_sem] lt_more lt_more2 lt_more3 lt_more4 lt_more5 lt_more6 lt_more7 lt_more8

set_option maxHeartbeats 8000000 in
set_option maxRecDepth 100000 in
theorem unpackMatches_any (w : World) (v : Value) (d p : List UInt8) (hv : ByR w v d) (he : ME [] d p) :
    Calls Try.prog 42 #[v] w fun e w' => (∃ v', e = .returned (.tuple #[v', .bool true]) ∧ ByV w' v' p) ∧ Below w.heap.size w w' := by
  obtain ⟨i0, hi, hz0, hz1, hz2⟩ := info_parts info5
  have HB := Lib.hid (Below.refl w.heap.size w)
  have HV := Lib.hid hv
  have HE := Lib.hid he
  clear hv he
  go_enter Try.func42, Try.ntmps42
  go_wp2
  go_loopg [0, 4] d.length (fun gh dv ov wr => ∃ (d' done : List UInt8), d'.length = gh ∧ Hid (ByR w dv d') ∧ Hid (ME done d' p) ∧ Hid (wr.ownsRow w.heap.size 5 1 ov done.length (done.map bc)) ∧ Hid (Below w.heap.size w wr))
  case atStart => exact ⟨d, [], rfl, HV, HE, Lib.hid (World.ownsRow_nil _ _ _ _), HB⟩
  case round =>
    obtain ⟨d', done, hlen, hr, he, hown, hb⟩ := hrel
    have HLEN := Lib.hid hlen
    clear hlen HB
    have HB := hb
    clear hb
    cases he.out with
    | done _ hp =>
      obtain ⟨A, c, rfl⟩ := hr.out.nil_form
      obtain ⟨Ao, co, rfl⟩ := own_sl hown.out
      rw [hp]
      go_wp2
      go_ret2
      refine ⟨⟨.slice Ao 32 co, rfl, ?_⟩, HB.out⟩
      have h5 := own_mono hown.out (Nat.zero_le _)
      unfold ByV
      rw [hp] at h5 ⊢
      exact h5
    | lit _ ls d2 _ x hx1 hx2 he2 =>
      obtain ⟨g, o, c, rfl, hc1, hc2, hg, hcell⟩ := hr.out.at_ (by simp)
      obtain ⟨m, hm⟩ : ∃ m, m = (x :: (ls ++ d2)).length := ⟨_, rfl⟩
      have HLEN2 := Lib.hid (hm.trans HLEN.out)
      rw [← hm] at hc1 ⊢
      have hm2 : m = d2.length + x.toNat + 2 := by rw [hm]; simp; omega
      have HT := Lib.hid (byR_drop (k := x.toNat + 2) hm.symm (by omega) hc1 hc2 hg hcell)
      have HML := Lib.hid (show d2.length = m - (x.toNat + 2) by omega)
      have HC := Lib.hid hcell
      have HM2 := Lib.hid hm2
      have HX1 := Lib.hid hx1
      have HX2 := Lib.hid hx2
      obtain ⟨Ao, co, rfl⟩ := own_sl hown.out
      have cx : wr.cell? ⟨g, o, none⟩ = some (.int .u8 (x.toNat : Int)) := (HB.out.cell (p := ⟨g, o, none⟩) hg).trans (hcell 0 x rfl)
      have q0 : decide ((done.length : Int) < 32) = true := decide_eq_true (by omega)
      have q1 : decide ((m : Int) < 2) = false := decide_eq_false (by omega)
      have q1' : decide ((61 : Int) < x.toNat) = false := decide_eq_false (by omega)
      have q1'' : (0 : Int) < m := by omega
      have q2 : IntKind.i64.wrap (x.toNat : Int) = x.toNat := IntWalk.i64_in _ (by omega)
      have q3 : IntKind.i64.wrap (32 - (done.length : Int)) = 32 - (done.length : Int) := IntWalk.i64_in _ (by omega)
      have q4 : decide ((x.toNat : Int) ≤ 31) = true := decide_eq_true (by omega)
      have q5 : IntKind.i64.wrap ((x.toNat : Int) + 1) = (x.toNat : Int) + 1 := IntWalk.i64_in _ (by omega)
      have q6 : IntKind.i64.wrap ((x.toNat : Int) + 2) = (x.toNat : Int) + 2 := IntWalk.i64_in _ (by omega)
      have q7 : IntKind.i64.wrap ((m : Int) - 1) = (m : Int) - 1 := IntWalk.i64_in _ (by unfold maxLen at hc2; omega)
      have q8 : decide (32 - (done.length : Int) < (x.toNat : Int) + 1) = false := decide_eq_false (by omega)
      have q9 : decide ((m : Int) - 1 < (x.toNat : Int) + 1) = false := decide_eq_false (by omega)
      have r1 : (1 : Int) ≤ (x.toNat : Int) + 2 := by omega
      have r2 : (x.toNat : Int) + 2 ≤ c := by omega
      have r3 : (x.toNat : Int) + 2 ≤ m := by omega
      have r4 : (0 : Int) ≤ (x.toNat : Int) + 2 := by omega
      have r5 : (m : Int) ≤ c := by omega
      have r6 : ¬ c = 1 := by omega
      have r8 : (1 : Int) ≤ (x.toNat : Int) + 2 := by omega
      have r7 : ((x.toNat : Int) + 2).toNat = x.toNat + 2 := by omega
      have HN : Hid (∀ j u, (ls.map bc)[j]? = some u → wr.drew.cell? ((⟨g, o + 1, none⟩ : Addr).add j) = some u) := newsR fun j u hu =>
        ((bD HB.out).cell (p := ⟨g, o + 1 + j, none⟩) hg).trans (by
          have := hcell (j + 1) u (by
            rw [List.getElem?_cons_succ, List.getElem?_append_left (by rcases Nat.lt_or_ge j ls.length with h | h; exact h; rw [List.getElem?_eq_none h] at hu; cases hu)]; exact hu)
          rw [show o + 1 + j = o + (j + 1) by omega]; exact this)
      have HE2 := Lib.hid (show ME (done ++ ls) d2 p from he2)
      clear hm hcell hr HLEN hx1 he2 he hm2 hx2
      go_wp2
      have t1 : (ls.map bc).length = (x.toNat + 1) * 1 := by have := HX2.out; simp; omega
      have t2 : 0 < x.toNat + 1 := by omega
      have t3 : done.length + (x.toNat + 1) ≤ maxLen := by unfold maxLen; have := HX1.out; have := HX2.out; omega
      have t4 : (done.length + (x.toNat + 1)) * 1 ≤ 140737488355328 := by have := HX1.out; have := HX2.out; omega
      go_region_held3 (fun _ => True) (exact trivial)
        (first
          | (refine step_append_lies _ (by rfl) _ _ _ (by rfl) w.heap.size 5 i0 _ 1 1 Try.underlying27 hi hz0 hz1 hz2 rfl (by decide) _ done.length (done.map bc) (by rfl) hown.out.drew
              ⟨g, o + 1, none⟩ (x.toNat + 1) (c - 1) (ls.map bc) (by rfl) t1 HN.out (bytes_one _) t2 t3 t4 (bD HB.out).size _ rfl ?_
             intro g2 cap2 w2 hown2 hgrow2 hat2 hlt2))
      have HB2 := Lib.hid (Below.grown (B := w.heap.size) (a := w) (bD HB.out) hgrow2 (bD HB.out).size (fun r hr => (hown.out.lt r hr).1))
      go_simp
      go_wp2
      all_goals
        go_roundg (m - (x.toNat + 2))
        case measure => have := HLEN2.out; omega
        case rel =>
          refine ⟨d2, done ++ ls, HML.out, Lib.hid ?_, HE2, Lib.hid ?_, HB2⟩
          · have h := HT.out
            rw [show (x :: (ls ++ d2)).drop (x.toNat + 2) = d2 by rw [List.drop_succ_cons, ← HX2.out, List.drop_left]] at h
            first
              | exact h
              | (rw [if_neg (by assumption)] at h; exact h)
              | ((have hq : c = x.toNat + 2 := by assumption); rw [if_pos hq, hq, Nat.sub_self] at h; exact h)
          · have h5 := hown2
            rw [List.length_append, List.map_append, HX2.out]
            exact h5
    | copy _ d2 _ x y hx1 hx2 hy1 hy2 hroom he2 =>
      obtain ⟨g, o, c, rfl, hc1, hc2, hg, hcell⟩ := hr.out.at_ (by simp)
      obtain ⟨m, hm⟩ : ∃ m, m = (x :: y :: d2).length := ⟨_, rfl⟩
      have HLEN2 := Lib.hid (hm.trans HLEN.out)
      rw [← hm] at hc1 ⊢
      have hm2 : m = d2.length + 2 := by rw [hm]; simp
      have HT := Lib.hid (byR_drop (k := 2) hm.symm (by omega) hc1 hc2 hg hcell)
      have HML := Lib.hid (show d2.length = m - 2 by omega)
      obtain ⟨Ao, co, rfl⟩ := own_sl hown.out
      have HE2 := Lib.hid (show ME (copyN (x.toNat - 29) y.toNat done) d2 p from he2)
      have cx : wr.cell? ⟨g, o, none⟩ = some (.int .u8 (x.toNat : Int)) := (HB.out.cell (p := ⟨g, o, none⟩) hg).trans (hcell 0 x rfl)
      have cy : wr.cell? ⟨g, o + 1, none⟩ = some (.int .u8 (y.toNat : Int)) := (HB.out.cell (p := ⟨g, o + 1, none⟩) hg).trans (hcell 1 y rfl)
      have q0 : decide ((done.length : Int) < 32) = true := decide_eq_true (by omega)
      have q1 : decide ((m : Int) < 2) = false := decide_eq_false (by omega)
      have q1' : decide ((61 : Int) < x.toNat) = false := decide_eq_false (by omega)
      have q1'' : (0 : Int) < m := by omega
      have q1a : (1 : Int) < m := by omega
      have q2 : IntKind.i64.wrap (x.toNat : Int) = x.toNat := IntWalk.i64_in _ (by omega)
      have q2' : IntKind.i64.wrap (y.toNat : Int) = y.toNat := IntWalk.i64_in _ (by omega)
      have q3 : IntKind.i64.wrap (32 - (done.length : Int)) = 32 - (done.length : Int) := IntWalk.i64_in _ (by omega)
      have q4 : decide ((x.toNat : Int) ≤ 31) = false := decide_eq_false (by omega)
      have q5 : IntKind.i64.wrap ((x.toNat : Int) - 29) = (x.toNat : Int) - 29 := IntWalk.i64_in _ (by omega)
      have q6 : decide ((y.toNat : Int) < 1) = false := decide_eq_false (by omega)
      have q7 : decide ((done.length : Int) < y.toNat) = false := decide_eq_false (by omega)
      have q8 : decide (32 - (done.length : Int) < (x.toNat : Int) - 29) = false := decide_eq_false (by omega)
      have hm3 : 2 ≤ m := by omega
      have hm4 : (2 : Int) ≤ m := by omega
      have HM2 := Lib.hid hm2
      clear hm hcell hr HLEN he2 he hm2
      go_wp2
      have HXR := Lib.hid (show x.toNat - 29 ≤ 32 by omega)
      have HY1 := Lib.hid hy1
      have HY2 := Lib.hid hy2
      have HRM := Lib.hid hroom
      have HX1 := Lib.hid hx1
      clear cx cy
      obtain ⟨wo, rfl⟩ : ∃ wo : World, wo = wr := ⟨_, rfl⟩
      go_loopg [4, 71] (x.toNat - 29) (fun gh ov cv w2 => ∃ (i : Nat) (done2 : List UInt8), gh + i = x.toNat - 29 ∧ cv = .int .i64 i ∧ Hid (w2.ownsRow w.heap.size 5 1 ov done2.length (done2.map bc)) ∧ Hid (Below w.heap.size w w2) ∧ Hid (copyN (x.toNat - 29) y.toNat done = copyN (x.toNat - 29 - i) y.toNat done2) ∧ done2.length = done.length + i)
      case atStart => exact ⟨0, done, rfl, rfl, hown, HB, Lib.hid rfl, rfl⟩
      case round =>
        obtain ⟨i, done2, hgi, rfl, hown2, hb2, hcp, hl2⟩ := hrel
        have HGI := Lib.hid hgi
        have HL2 := Lib.hid hl2
        clear hgi
        by_cases hlt : i < x.toNat - 29
        · have e1 : decide ((i : Int) < (x.toNat : Int) - 29) = true := decide_eq_true (by omega)
          obtain ⟨gb, cb, rfl, _, hgb⟩ := hown2.out.form (by omega)
          obtain ⟨u, hu⟩ : ∃ u, done2[done2.length - y.toNat]? = some u := ⟨done2[done2.length - y.toNat]'(by omega), List.getElem?_eq_getElem _⟩
          have cu : wr.cell? ⟨gb, done2.length - y.toNat, none⟩ = some (.int .u8 (u.toNat : Int)) := by
            rw [hown2.out.cellAt _ (by omega), List.getElem?_map, hu]; rfl
          have HU := Lib.hid hu
          have e2 : IntKind.i64.wrap ((done2.length : Int) - y.toNat) = (done2.length : Int) - y.toNat := IntWalk.i64_in _ (by omega)
          have e3 : (0 : Int) ≤ (done2.length : Int) - y.toNat := by omega
          have e4 : (done2.length : Int) - y.toNat < done2.length := by omega
          have e5 : ((done2.length : Int) - y.toNat).toNat = done2.length - y.toNat := by omega
          have e6 : IntKind.i64.wrap ((i : Int) + 1) = (i : Int) + 1 := IntWalk.i64_in _ (by omega)
          have ub := bc_hi u
          have t2 : ∀ u' ∈ [Value.int .u8 (u.toNat : Int)], u'.oneCell' = true := by intro u' hu'; simp at hu'; rcases hu' with rfl; rfl
          have T2 := Lib.hid t2
          have t3 : done2.length + 1 ≤ maxLen := by unfold maxLen; omega
          have t4 : (done2.length + 1) * 1 ≤ 140737488355328 := by omega
          have t5 : w.heap.size ≤ (wr.alloc (.cells #[.int .u8 (u.toNat : Int)] 5)).heap.size := by have := hb2.out.size; simp only [size_alloc2]; omega
          have T5 := Lib.hid t5
          (have T3 := Lib.hid t3); (have T4 := Lib.hid t4)
          clear hu hl2 t2 t3 t4 t5
          go_wp2_with
            (at_builtin
             refine wpList_append_own _ rfl _ _ 27 rfl w.heap.size 5 i0 _ 1 1 Try.underlying27 hi hz0 hz1 hz2 rfl (by decide) _ _ _ rfl (hown2.out.alloc _) ⟨wr.heap.size, 0, none⟩ 1 1 [.int .u8 (u.toNat : Int)] rfl rfl (newc wr _ 5) T2.out T3.out T4.out T5.out ?_
             intro v3 w3 hown3 hgrow3 hnil3
             obtain ⟨A3, c3, rfl⟩ := own_sl hown3
             have HO3 := Lib.hid hown3
             have HB3 := Lib.hid (Below.grown (B := w.heap.size) (a := w) (bA hb2.out) hgrow3 T5.out (fun r hr => (hown2.out.lt r hr).1))
             clear hown3 hgrow3 hnil3)
          go_roundg (x.toNat - 29 - (i + 1))
          case measure => have := HGI.out; omega
          case rel =>
            refine ⟨i + 1, done2 ++ [u], by omega, by go_num, Lib.hid ?_, HB3, Lib.hid ?_, by have := HL2.out; simp; omega⟩
            · have h5 := HO3.out
              rw [List.length_append, List.map_append]
              exact h5
            · rw [hcp.out, show x.toNat - 29 - i = (x.toNat - 29 - (i + 1)) + 1 by omega, copyN, List.getD_eq_getElem?_getD, HU.out]; rfl
        · have e1 : decide ((i : Int) < (x.toNat : Int) - 29) = false := decide_eq_false (by omega)
          have HI := Lib.hid (show i = x.toNat - 29 by have := HGI.out; omega)
          go_wp2
          all_goals
            go_roundg (m - 2)
            case measure => have := HLEN2.out; omega
            case rel =>
              refine ⟨d2, done2, HML.out, Lib.hid ?_, Lib.hid ?_, hown2, hb2⟩
              · have h := HT.out
                rw [show (x :: y :: d2).drop 2 = d2 from rfl] at h
                first
                  | (rw [if_neg (by assumption)] at h; exact h)
                  | ((have hq : c = 2 := by assumption); rw [if_pos hq, hq, Nat.sub_self] at h; exact h)
              · have h := HE2.out
                rw [hcp.out, show x.toNat - 29 - i = 0 by have := HI.out; omega] at h
                exact h
end Go.Proofs.Ytfdmmbalfjcehaa
