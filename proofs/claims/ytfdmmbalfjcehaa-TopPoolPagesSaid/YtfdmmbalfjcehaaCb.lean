/- Contract of compress.Filled. -/
import Derived.Test.YtfdmmbalfjcehaaCa
namespace Go.Proofs.Ytfdmmbalfjcehaa
open Go.RowKit
set_option linter.unusedVariables false
set_option linter.unusedSimpArgs false
attribute [local go_sem] lt_more lt_more2 lt_more3 lt_more4 lt_more5 lt_more6 lt_more7 lt_more8

def nums (l : List UInt8) : List Int := l.map fun u : UInt8 => ((u.toNat : Nat) : Int)
theorem nums_len (l : List UInt8) : (nums l).length = l.length := by simp [nums]
theorem bytesOf_nums (l : List UInt8) : Lib.bytesOf (nums l) = l := by
  unfold Lib.bytesOf nums
  rw [List.map_map]
  conv => rhs; rw [← List.map_id l]
  apply List.map_congr_left
  intro u _
  simp
theorem nums_get (l : List UInt8) (j : Nat) (hj : j < l.length) : Value.int .u8 ((nums l).getD j 0) = bc l[j] := by
  simp [nums, bc, List.getD, hj]
theorem ByR.in_ {w : World} {A : Option Addr} {n c : Nat} {l : List UInt8} (h : ByR w (.slice A n c) l) : Lib.BytesIn w A n (nums l) := by
  obtain ⟨A', c', hv, h1, h2, hn, hs⟩ := h
  injection hv with e1 e2 e3
  subst e1 e2 e3
  intro hpos
  cases A with
  | none => have := (hn rfl).1; subst this; simp at hpos
  | some a =>
    obtain ⟨g, o, rfl, _, hc⟩ := hs a rfl
    refine ⟨g, o, rfl, fun i hi => ?_⟩
    rw [nums_get l i hi]
    exact hc i _ (List.getElem?_eq_getElem hi)
theorem ByR.form {w : World} {v : Value} {l : List UInt8} (h : ByR w v l) : ∃ A c, v = .slice A l.length c := by
  obtain ⟨A', c', hv, _⟩ := h; exact ⟨_, _, hv⟩

theorem repeat_32 (w : World) (g o c : Nat) (x : UInt8) (hx : w.cell? ⟨g, o, none⟩ = some (bc x)) :
    Calls Try.prog 36 #[.slice (some ⟨g, o, none⟩) 1 c, .int .i64 32] w fun e w' => (∃ v', e = .returned v' ∧ ByR w' v' (List.replicate 32 x)) ∧ Below w.heap.size w w' :=
  repeat_any w g o c 32 x (by omega) (by omega) hx

def filledB (l : List UInt8) : Bool := l == List.replicate 32 (l.getD 0 0)

/-- A page lies at the head of a block. -/
theorem page_at {w : World} {v : Value} {l : List UInt8} (h : ByV w v l) (hl : 0 < l.length) : ∃ g c, v = .slice (some ⟨g, 0, none⟩) l.length c ∧ l.length ≤ c ∧ c ≤ maxLen ∧ g < w.heap.size ∧ ∀ j u, l[j]? = some u → w.cell? ⟨g, j, none⟩ = some (bc u) := by
  obtain ⟨A, c, hv, h1, h2, hn, hs⟩ := own_form h
  cases A with
  | none => have := (hn rfl).1; omega
  | some a =>
    obtain ⟨g, rfl, hg, _, hc⟩ := hs a rfl
    exact ⟨g, c, hv, h1, h2, hg, fun j u hu => hc j _ (by simp [hu])⟩

theorem get32 {l : List UInt8} (hl : l.length = 32) : l[0]? = some (l.getD 0 0) := by
  rw [List.getElem?_eq_getElem (by omega)]; simp [List.getD, hl]

set_option maxHeartbeats 1000000 in
set_option maxRecDepth 100000 in
theorem filled_any (w : World) (v : Value) (l : List UInt8) (hv : ByV w v l) (hl : l.length = 32) :
    Calls Try.prog 18 #[v] w fun e w' => e = .returned (.tuple #[.int .u8 (if filledB l then ((l.getD 0 0).toNat : Int) else 0), .bool (filledB l)]) ∧ Below w.heap.size w w' := by
  obtain ⟨g, c, rfl, h1, h2, hg, hc⟩ := page_at hv (by omega)
  have HB := Lib.hid (Below.refl w.heap.size w)
  have HV := Lib.hid hv.toR
  rw [hl] at h1 HV ⊢
  have hx0 := hc 0 _ (get32 hl)
  have HX := Lib.hid hx0
  have HL := Lib.hid hl
  obtain ⟨x, hx⟩ : ∃ x, x = l.getD 0 0 := ⟨_, rfl⟩
  rw [← hx] at hx0 HX ⊢
  have HQ := Lib.hid (show filledB l = (l == List.replicate 32 x) by rw [filledB, ← hx])
  have hc1 : (1 : Int) ≤ (c : Int) := by omega
  have hbc : bc x = .int .u8 (x.toNat : Int) := rfl
  rw [hbc] at hx0
  clear hv hc hl hx hbc
  cases hf : filledB l
  all_goals
    have HF := Lib.hid (hf.symm.trans HQ.out)
    clear hf
    go_enter Try.func18, Try.ntmps18
    go_wp2_with (first | ((go_at_call 36); (refine (repeat_32 _ g 0 c x HX.out).mono ?_); rintro e w1 ⟨⟨v', rfl, hr⟩, hb1⟩; (have HB1 := Lib.hid (bT (w := w) (by repeat (with_reducible first | exact HB.out | exact Below.refl _ _ | apply bA | apply bD | apply bN | refine bS ?_ (by first | assumption | (simp only []; omega) | omega))) hb1)); clear HB; (have HB := HB1); clear HB1; (obtain ⟨A', c', rfl⟩ := hr.form); (rw [List.length_replicate] at hr ⊢); (have HR := Lib.hid hr); (have HV1 := Lib.hid (HV.out.keep hb1)); (have hx1 := cell_keep (a := ⟨g, 0, none⟩) hb1 hx0); clear hb1 hr) | ((go_at_call 35); (with_reducible refine (Try.bytes_Equal_all _ _ _ _ _ _ (nums l) (nums (List.replicate 32 x)) _ (by rw [nums_len, HL.out]) (by rw [nums_len, List.length_replicate]) HV1.out.in_ HR.out.in_).mono ?_); rintro e w2 ⟨rfl, rfl⟩; rw [bytesOf_nums, bytesOf_nums, ← HF.out]))
    go_ret2
    exact ⟨rfl, (by repeat (with_reducible first | exact HB.out | exact Below.refl _ _ | apply bA | apply bD | apply bN | refine bS ?_ (by first | assumption | (simp only []; omega) | omega)))⟩
end Go.Proofs.Ytfdmmbalfjcehaa
