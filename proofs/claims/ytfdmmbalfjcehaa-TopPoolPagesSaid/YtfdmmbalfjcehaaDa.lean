/- Contract of compress.unpackRuns, at encodings. -/
import Derived.Test.YtfdmmbalfjcehaaCg
namespace Go.Proofs.Ytfdmmbalfjcehaa
open Go.RowKit
set_option linter.unusedVariables false
set_option linter.unusedSimpArgs false
attribute [local go_sem] lt_more lt_more2 lt_more3 lt_more4 lt_more5 lt_more6 lt_more7 lt_more8

/-- The pairs d stand for the bytes p. -/
inductive RE : List UInt8 → List UInt8 → Prop
  | nil : RE [] []
  | run (x b : UInt8) (d p : List UInt8) : 1 ≤ x.toNat → RE d p → RE (x :: b :: d) (List.replicate x.toNat b ++ p)

theorem ByR.at_ {w : World} {v : Value} {l : List UInt8} (h : ByR w v l) (hl : 0 < l.length) : ∃ g o c, v = .slice (some ⟨g, o, none⟩) l.length c ∧ l.length ≤ c ∧ c ≤ maxLen ∧ g < w.heap.size ∧ ∀ j u, l[j]? = some u → w.cell? ⟨g, o + j, none⟩ = some (bc u) := by
  obtain ⟨A, c, hv, h1, h2, hn, hs⟩ := h
  cases A with
  | none => have := (hn rfl).1; subst this; simp at hl
  | some a =>
    obtain ⟨g, o, rfl, hg, hc⟩ := hs a rfl
    exact ⟨g, o, c, hv, h1, h2, hg, hc⟩
theorem ByR.nil_form {w : World} {v : Value} (h : ByR w v []) : ∃ A c, v = .slice A 0 c := by
  obtain ⟨A, c, hv, _⟩ := h; exact ⟨A, c, hv⟩
/-- The tail of a slice of bytes. -/
theorem byR_drop {w : World} {g o k n c : Nat} {l : List UInt8} (hl : l.length = n) (hk : k ≤ n) (hc : n ≤ c) (hm : c ≤ maxLen) (hg : g < w.heap.size) (hcell : ∀ j u, l[j]? = some u → w.cell? ⟨g, o + j, none⟩ = some (bc u)) :
    ByR w (.slice (if c = k then some ⟨g, o, none⟩ else some ⟨g, o + k, none⟩) (n - k) (c - k)) (l.drop k) := by
  have e : (l.drop k).length = n - k := by rw [List.length_drop, hl]
  have x1 : (l.drop k).length ≤ c - k := by omega
  refine ⟨_, c - k, by rw [e], x1, by omega, fun h => ?_, fun a ha => ?_⟩
  · split at h <;> cases h
  by_cases hck : c = k
  · rw [if_pos hck] at ha; injection ha with ha
    refine ⟨g, o, ha.symm, hg, fun j u hu => ?_⟩
    rw [List.getElem?_eq_none (by omega)] at hu; cases hu
  · rw [if_neg hck] at ha; injection ha with ha
    refine ⟨g, o + k, ha.symm, hg, fun j u hu => ?_⟩
    rw [List.getElem?_drop] at hu
    rw [Nat.add_assoc]
    exact hcell _ u hu

theorem newsR {w : World} {g o : Nat} {l : List UInt8} (hc : ∀ j u, l[j]? = some u → w.cell? ⟨g, o + j, none⟩ = some (bc u)) :
    ∀ j u, (l.map bc)[j]? = some u → w.cell? ((⟨g, o, none⟩ : Addr).add j) = some u := by
  intro j u hu
  have e : (⟨g, o, none⟩ : Addr).add j = ⟨g, o + j, none⟩ := by unfold Addr.add; split <;> simp_all
  rw [e]
  rw [List.getElem?_map] at hu
  cases hx : l[j]? with
  | none => rw [hx] at hu; cases hu
  | some x => rw [hx] at hu; exact (hc j x hx).trans hu
theorem own_sl {w : World} {b n : Nat} {v : Value} {xs : List Value} (h : w.ownsRow b 5 1 v n xs) : ∃ A c, v = .slice A n c := by
  rcases h.2 with ⟨rfl, rfl⟩ | ⟨g, cap, cur, rfl, _⟩
  · exact ⟨_, _, rfl⟩
  · exact ⟨_, _, rfl⟩
set_option maxHeartbeats 8000000 in
set_option maxRecDepth 100000 in
theorem unpackRuns_any (w : World) (v : Value) (d p : List UInt8) (hv : ByR w v d) (he : RE d p) (hp : p.length = 32) :
    Calls Try.prog 41 #[v] w fun e w' => (∃ v', e = .returned (.tuple #[v', .bool true]) ∧ ByV w' v' p) ∧ Below w.heap.size w w' := by
  obtain ⟨i0, hi, hz0, hz1, hz2⟩ := info_parts info5
  have HB := Lib.hid (Below.refl w.heap.size w)
  have HV := Lib.hid hv
  have HE := Lib.hid he
  have HP := Lib.hid hp
  clear hv he hp
  go_enter Try.func41, Try.ntmps41
  go_wp2
  go_loopg [0, 4] d.length (fun gh dv out wr => ∃ (d' p' done : List UInt8), d'.length = gh ∧ Hid (ByR w dv d') ∧ Hid (RE d' p') ∧ Hid (wr.ownsRow w.heap.size 5 1 out done.length (done.map bc)) ∧ Hid (Below w.heap.size w wr) ∧ done.length + p'.length = 32 ∧ Hid (p = done ++ p'))
  case atStart => exact ⟨d, p, [], rfl, HV, HE, Lib.hid (World.ownsRow_nil _ _ _ _), HB, by simpa using HP.out, Lib.hid rfl⟩
  case round =>
    obtain ⟨d', p', done, hlen, hr, he, hown, hb, hdp, hpe⟩ := hrel
    have HLEN := Lib.hid hlen
    clear hlen HB
    have HB := hb
    clear hb
    cases he.out with
    | nil =>
      obtain ⟨A, c, rfl⟩ := hr.out.nil_form
      go_wp2
      go_ret2
      have e : p = done := by rw [hpe.out, List.append_nil]
      rw [e]
      exact ⟨⟨_, rfl, own_mono hown.out (Nat.zero_le _)⟩, HB.out⟩
    | run x b d2 p2 hx he2 =>
      obtain ⟨g, o, c, rfl, hc1, hc2, hg, hcell⟩ := hr.out.at_ (by simp)
      obtain ⟨m, hm⟩ : ∃ m, m = (x :: b :: d2).length := ⟨_, rfl⟩
      have HLEN2 := Lib.hid (hm.trans HLEN.out)
      have HM := Lib.hid hm
      rw [← hm] at hc1 ⊢
      have hm2 : 2 ≤ m := by rw [hm]; simp
      have HT := Lib.hid (byR_drop (k := 2) hm.symm hm2 hc1 hc2 hg hcell)
      have HML := Lib.hid (show d2.length = m - 2 by rw [hm]; simp)
      have hx32 : done.length + x.toNat ≤ 32 := by simp at hdp; omega
      have HC := Lib.hid hcell
      have HR2 := Lib.hid (show RE d2 p2 from he2)
      have HX := Lib.hid hx
      obtain ⟨Ao, co, rfl⟩ := own_sl hown.out
      have cx : wr.cell? ⟨g, o, none⟩ = some (.int .u8 (x.toNat : Int)) := (HB.out.cell (p := ⟨g, o, none⟩) hg).trans (hcell 0 x rfl)
      have cb : wr.cell? ⟨g, o + 1, none⟩ = some (bc b) := (HB.out.cell (p := ⟨g, o + 1, none⟩) hg).trans (hcell 1 b rfl)
      have CB := Lib.hid cb
      have HDP := Lib.hid hdp
      have q1 : (2 : Int) ≤ m := by omega
      have q2 : (2 : Int) ≤ c := by omega
      have q3 : ¬ c = 1 := by omega
      have q4 : (m : Int) ≤ c := by omega
      have q5 : IntKind.i64.wrap (x.toNat : Int) = x.toNat := IntWalk.i64_in _ (by omega)
      have q6 : IntKind.i64.wrap (32 - (done.length : Int)) = 32 - (done.length : Int) := IntWalk.i64_in _ (by omega)
      have d1 : decide ((x.toNat : Int) < 1) = false := decide_eq_false (by omega)
      have d2' : decide (32 - (done.length : Int) < (x.toNat : Int)) = false := decide_eq_false (by omega)
      have q7 : (0 : Int) < m := by omega
      clear hm hcell hr HLEN hdp cb hx he2 he
      go_wp2_with (first
        | ((go_at_call 36)
           refine (repeat_any _ g (o + 1) (c - 1) x.toNat b HX.out (by omega) CB.out).mono ?_
           rintro e w1 ⟨⟨v1, rfl, hr1⟩, hb1⟩
           obtain ⟨g1, o1, c1, rfl, _, _, _, hcell1⟩ := hr1.at_ (by rw [List.length_replicate]; exact HX.out)
           have HO1 := Lib.hid (own_belowB hown.out hb1)
           have HB1 := Lib.hid (bT (w := w) HB.out hb1)
           have HC1 := Lib.hid hcell1
           clear hr1 hb1 hcell1)
        | (at_builtin
           refine wpList_append_own _ rfl _ _ 27 rfl w.heap.size 5 i0 _ 1 1 Try.underlying27 hi hz0 hz1 hz2 rfl (by decide) _ _ _ rfl HO1.out ⟨g1, o1, none⟩ x.toNat c1 ((List.replicate x.toNat b).map bc) rfl (by simp) (newsR HC1.out) (bytes_one _) (by unfold maxLen; omega) (by omega) HB1.out.size ?_
           intro v3 w3 hown3 hgrow3 hnil3
           obtain ⟨A3, c3, rfl⟩ := own_sl hown3
           have HO3 := Lib.hid hown3
           have HB3 := Lib.hid (Below.grown (B := w.heap.size) (a := w) HB1.out hgrow3 HB1.out.size (fun r hr => (HO1.out.lt r hr).1))
           clear hown3 hgrow3 hnil3))
      all_goals
        go_roundg (m - 2)
        case measure => have := HLEN2.out; omega
        case rel =>
          refine ⟨d2, p2, done ++ List.replicate x.toNat b, HML.out, Lib.hid ?_, HR2, Lib.hid ?_, HB3, ?_, Lib.hid ?_⟩
          · first
              | (have h := HT.out; rw [if_neg (by assumption)] at h; exact h)
              | (have h := HT.out; (have hq : c = 2 := by assumption); rw [if_pos hq, hq] at h; exact h)
          · have h5 := HO3.out
            rw [List.length_append, List.length_replicate, List.map_append]
            exact h5
          · have := HDP.out; simp at this ⊢; omega
          · rw [hpe.out, List.append_assoc]
end Go.Proofs.Ytfdmmbalfjcehaa
