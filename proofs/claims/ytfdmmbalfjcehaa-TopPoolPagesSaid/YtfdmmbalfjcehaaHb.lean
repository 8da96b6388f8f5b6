/- Contract of zswap.Needs over a valid pool. -/
import Derived.Test.YtfdmmbalfjcehaaHa
import Derived.Test.YtfdmmbalfjcehaaCe
import Derived.Test.YtfdmmbalfjcehaaDm
import Derived.Test.YtfdmmbalfjcehaaPk
import Derived.Defers
namespace Go.Proofs.Ytfdmmbalfjcehaa
open Go.RowKit
set_option linter.unusedVariables false
set_option linter.unusedSimpArgs false
attribute [local go_sem] lt_more lt_more2 lt_more3 lt_more4 lt_more5 lt_more6 lt_more7 lt_more8 idx0 idx1

theorem One.all {w : World} {B : Nat} {t : TypeId} {v : Value} (h : One w B t v) : w.cell? ⟨B, 0, none⟩ = some v ∧ True ∧ w.frozen? ⟨B, 0, none⟩ = false ∧ True ∧ B < w.heap.size := ⟨h.cell, trivial, h.frozen, trivial, h.lt⟩
/-- A store of what is there already turns nothing. -/
theorem One.again {w : World} {B : Nat} {t : TypeId} {v : Value} (h : One w B t v) : w.setCell ⟨B, 0, none⟩ v = w := by
  unfold One at h
  have hl : B < w.heap.size := (Array.getElem?_eq_some_iff.1 h).1
  have he : w.heap[B] = .cells #[v] t (0, 0) := (Array.getElem?_eq_some_iff.1 h).2
  unfold World.setCell
  cases w
  simp only [World.mk.injEq]
  simp
  apply Array.ext_getElem?
  intro i
  rw [Array.getElem?_modify]
  split
  · rename_i h2; subst h2; simp_all
  · rfl

theorem needs_defer (w : World) (e n : Nat) (u : FrameMode) (he : One w e 3 (.int .i64 0)) :
    CallsD Try.prog 29 #[.pointer (some ⟨e, 0, none⟩), .pointer (some ⟨n, 0, none⟩)] u w fun r u' w' => u' = u ∧ (r = .returned (.tuple #[]) ∧ w' = w) := by
  have c := he.cell
  clear he
  go_enter_d Try.func29, Try.ntmps29
  go_wp2
  go_end0
  exact ⟨rfl, rfl⟩

def needsF (fs : List Fr) (k : Nat) : Int := if 24 < k then -1 else if fitTo fs k fs.length ≠ -1 then 0 else if fs.length < 4 then 1 else -1

theorem bne_of_false {r : Int} (h : (r == -1) = false) : (r != -1) = true := by unfold bne; rw [h]; rfl
theorem bne_of_true {r : Int} (h : (r == -1) = true) : (r != -1) = false := by unfold bne; rw [h]; rfl
theorem needs_end {W : World} {tmps : Array Value} {R : Ending → World → Prop} {e n : Nat} {x : Value} (On : One W n 3 x) (Oe : One W e 3 (.int .i64 0)) (h4 : tmps.getD 4 undef = .pointer (some ⟨n, 0, none⟩)) (h5 : tmps.getD 5 undef = .pointer (some ⟨e, 0, none⟩)) (hR : R (.returned (.tuple #[x, .int .i64 0])) W) :
    Leaves Try.prog Try.f15 tmps R [{ target := .fn (.func 29) #[.pointer (some ⟨e, 0, none⟩), .pointer (some ⟨n, 0, none⟩)], args := #[] }] .returning W := by
  refine leaves_cons (f := 29) (args := #[.pointer (some ⟨e, 0, none⟩), .pointer (some ⟨n, 0, none⟩)]) (by simp) (by simp [go_sem]) ?_
  refine (needs_defer W e n .returning Oe).mono ?_
  rintro r u' w'' ⟨rfl, rfl, rfl⟩
  refine ⟨_, ?_, hR⟩
  have c1 := On.cell
  have c2 := Oe.cell
  simp only [Array.getD_eq_getD_getElem?] at h4 h5
  simp [results, Try.results15, go_sem, h4, h5, c1, c2]

set_option maxHeartbeats 4000000 in
set_option maxRecDepth 100000 in
theorem needs_any (w : World) (v pv : Value) (fs : List Fr) (l : List UInt8) (hv : FrsV w v fs) (hf : Valid fs) (hp : ByV w pv l) (hl : l.length = 32) :
    Calls Try.prog 15 #[.agg #[.int .i64 4, v], pv] w fun e w' => e = .returned (.tuple #[.int .i64 (needsF fs (packF l).length), .int .i64 0]) ∧ Below w.heap.size w w' := by
  obtain ⟨A, c, rfl, hc, hm⟩ := hv.form
  obtain ⟨Ap, cp, rfl, _, _⟩ := hp.form
  have HB := Lib.hid (Below.refl w.heap.size w)
  have FV := Lib.hid hv
  have PV := Lib.hid hp
  have hn4 := hf.1
  obtain ⟨n, hn'⟩ : ∃ n, n = fs.length := ⟨_, rfl⟩
  rw [← hn'] at hv hc FV hn4 ⊢
  rw [hl] at PV ⊢
  obtain ⟨k, hk'⟩ : ∃ k, k = (packF l).length := ⟨_, rfl⟩
  rw [← hk']
  have hk1 : 1 ≤ k := by rw [hk']; exact packF_pos l
  have HN := Lib.hid hn'
  have HK := Lib.hid hk'
  have HF := Lib.hid hf
  have HL := Lib.hid hl
  have ne : w.heap.size + 1 ≠ w.heap.size + 1 + 1 := by omega
  clear hn' hf hv hp hl hk'
  by_cases h24 : 24 < k
  · have d24 : decide ((24 : Int) < k) = true := decide_eq_true (by omega)
    have HR := Lib.hid (show needsF fs k = -1 by unfold needsF; rw [if_pos h24])
    clear h24
    go_enter_defers Try.func15, Try.ntmps15
    go_wp2_with fail
    ((go_at_call 30); (with_reducible refine (encode_any _ _ _ fs l (FV.out.keep (by repeat (with_reducible first | exact Below.refl _ _ | apply bA | apply bD | apply bN))) HF.out (PV.out.keep (by repeat (with_reducible first | exact Below.refl _ _ | apply bA | apply bD | apply bN))) HL.out).mono ?_); rintro e w1 ⟨⟨v', rfl, ho⟩, hb1⟩; (have HB1 := Lib.hid (bT (w := w) ((by repeat (with_reducible first | exact HB.out | exact Below.refl _ _ | apply bA | apply bD | apply bN | refine bS ?_ (by first | assumption | (simp only []; omega) | omega)))) hb1)); clear HB; (have HB := HB1); clear HB1; (have hbb := HB.out); (have N_ := Lib.hid (FV.out.keep hbb)); clear FV; (have FV := N_); clear N_; (have N_ := Lib.hid (PV.out.keep hbb)); clear PV; (have PV := N_); clear N_; (have TX := Lib.hid (Two.keep (B := w.heap.size) (u := .int .i64 4) (v := .slice A n c) (by simp only [Two, ITwo, heap_drew, heap_drewN, heap_alloc_eq, size_alloc', size_drew, size_drewN, ↓reduceIte]; repeat (first | rw [if_pos (by omega)] | rw [if_neg (by omega)])) hb1)); (have ON := Lib.hid (One.keep (B := w.heap.size + 1) (v := .int .i64 0) (t := 3) (by simp only [One, Two, heap_drew, heap_drewN, heap_alloc_eq, size_alloc', size_drew, size_drewN, ↓reduceIte]; repeat (first | rw [if_pos (by omega)] | rw [if_neg (by omega)])) hb1)); (have OE := Lib.hid (One.keep (B := w.heap.size + 1 + 1) (v := .int .i64 0) (t := 3) (by simp only [One, Two, heap_drew, heap_drewN, heap_alloc_eq, size_alloc', size_drew, size_drewN, ↓reduceIte]; repeat (first | rw [if_pos (by omega)] | rw [if_neg (by omega)])) hb1)); (obtain ⟨A', c', rfl, _, _⟩ := ho.form); (rw [← HK.out] at ho ⊢); (have HO := Lib.hid ho); clear ho; clear hb1 hbb; (obtain ⟨wl, rfl⟩ : ∃ wl : World, wl = w1 := ⟨_, rfl⟩); (try clear hx0 hx1 fx0 fx1 lx); (obtain ⟨hx0, hx1, fx0, fx1, lx⟩ := TX.out.all); (try clear hn0 hn1 fn0 fn1 ln); (obtain ⟨hn0, hn1, fn0, fn1, ln⟩ := ON.out.all); (try clear he0 he1 fe0 fe1 le); (obtain ⟨he0, he1, fe0, fe1, le⟩ := OE.out.all); (have hse := OE.out.again))
    go_wp2
    rw [HR.out]
    exact needs_end (ON.out.set_.far ne) ((OE.out.far ne.symm).set_) rfl rfl ⟨rfl, (by repeat (with_reducible first | exact HB.out | exact Below.refl _ _ | apply bA | apply bD | apply bN | refine bS ?_ (by first | assumption | (simp only []; omega) | omega)))⟩
  · have d24 : decide ((24 : Int) < k) = false := decide_eq_false (by omega)
    have hk2 : k ≤ 24 := by omega
    obtain ⟨b, hb⟩ : ∃ b, b = (fitTo fs k n == -1) := ⟨_, rfl⟩
    have HRb := Lib.hid hb
    clear hb
    cases b with
    | false =>
      have HR := Lib.hid (show needsF fs k = 0 by
        unfold needsF; rw [if_neg h24, if_pos]
        have := HRb.out; rw [HN.out] at this; simpa using this.symm)
      clear h24
      go_enter_defers Try.func15, Try.ntmps15
      go_wp2_with fail
      ((go_at_call 30); (with_reducible refine (encode_any _ _ _ fs l (FV.out.keep (by repeat (with_reducible first | exact Below.refl _ _ | apply bA | apply bD | apply bN))) HF.out (PV.out.keep (by repeat (with_reducible first | exact Below.refl _ _ | apply bA | apply bD | apply bN))) HL.out).mono ?_); rintro e w1 ⟨⟨v', rfl, ho⟩, hb1⟩; (have HB1 := Lib.hid (bT (w := w) ((by repeat (with_reducible first | exact HB.out | exact Below.refl _ _ | apply bA | apply bD | apply bN | refine bS ?_ (by first | assumption | (simp only []; omega) | omega)))) hb1)); clear HB; (have HB := HB1); clear HB1; (have hbb := HB.out); (have N_ := Lib.hid (FV.out.keep hbb)); clear FV; (have FV := N_); clear N_; (have N_ := Lib.hid (PV.out.keep hbb)); clear PV; (have PV := N_); clear N_; (have TX := Lib.hid (Two.keep (B := w.heap.size) (u := .int .i64 4) (v := .slice A n c) (by simp only [Two, ITwo, heap_drew, heap_drewN, heap_alloc_eq, size_alloc', size_drew, size_drewN, ↓reduceIte]; repeat (first | rw [if_pos (by omega)] | rw [if_neg (by omega)])) hb1)); (have ON := Lib.hid (One.keep (B := w.heap.size + 1) (v := .int .i64 0) (t := 3) (by simp only [One, Two, heap_drew, heap_drewN, heap_alloc_eq, size_alloc', size_drew, size_drewN, ↓reduceIte]; repeat (first | rw [if_pos (by omega)] | rw [if_neg (by omega)])) hb1)); (have OE := Lib.hid (One.keep (B := w.heap.size + 1 + 1) (v := .int .i64 0) (t := 3) (by simp only [One, Two, heap_drew, heap_drewN, heap_alloc_eq, size_alloc', size_drew, size_drewN, ↓reduceIte]; repeat (first | rw [if_pos (by omega)] | rw [if_neg (by omega)])) hb1)); (obtain ⟨A', c', rfl, _, _⟩ := ho.form); (rw [← HK.out] at ho ⊢); (have HO := Lib.hid ho); clear ho; clear hb1 hbb; (obtain ⟨wl, rfl⟩ : ∃ wl : World, wl = w1 := ⟨_, rfl⟩); (try clear hx0 hx1 fx0 fx1 lx); (obtain ⟨hx0, hx1, fx0, fx1, lx⟩ := TX.out.all); (try clear hn0 hn1 fn0 fn1 ln); (obtain ⟨hn0, hn1, fn0, fn1, ln⟩ := ON.out.all); (try clear he0 he1 fe0 fe1 le); (obtain ⟨he0, he1, fe0, fe1, le⟩ := OE.out.all); (have hse := OE.out.again))
      go_wp2_with fail
      ((go_at_call 31); (with_reducible refine (fits_any _ _ fs k (FV.out.keep (by repeat (with_reducible first | exact Below.refl _ _ | apply bA | apply bD | apply bN))) HF.out (by omega) (by omega)).mono ?_); rintro e w1 ⟨⟨r, rfl, hr⟩, hb1⟩; (have HB1 := Lib.hid (bT (w := w) ((by repeat (with_reducible first | exact HB.out | exact Below.refl _ _ | apply bA | apply bD | apply bN | refine bS ?_ (by first | assumption | (simp only []; omega) | omega)))) hb1)); clear HB; (have HB := HB1); clear HB1; (have hbb := bT (w := wl) (by repeat (with_reducible first | exact Below.refl _ _ | apply bA | apply bD | apply bN)) hb1); (have N_ := Lib.hid (TX.out.keep hbb)); clear TX; (have TX := N_); clear N_; (have N_ := Lib.hid (ON.out.keep hbb)); clear ON; (have ON := N_); clear N_; (have N_ := Lib.hid (OE.out.keep hbb)); clear OE; (have OE := N_); clear N_; (rw [← HN.out, ← HRb.out] at hr); (have hr2 := bne_of_false hr); (have HRR := Lib.hid hr); clear hr; clear hb1 hbb; (obtain ⟨wl, rfl⟩ : ∃ wl : World, wl = w1 := ⟨_, rfl⟩); (try clear hx0 hx1 fx0 fx1 lx); (obtain ⟨hx0, hx1, fx0, fx1, lx⟩ := TX.out.all); (try clear hn0 hn1 fn0 fn1 ln); (obtain ⟨hn0, hn1, fn0, fn1, ln⟩ := ON.out.all); (try clear he0 he1 fe0 fe1 le); (obtain ⟨he0, he1, fe0, fe1, le⟩ := OE.out.all); (have hse := OE.out.again))
      go_wp2
      rw [HR.out]
      exact needs_end (ON.out.set_.far ne) ((OE.out.far ne.symm).set_) rfl rfl ⟨rfl, (by repeat (with_reducible first | exact HB.out | exact Below.refl _ _ | apply bA | apply bD | apply bN | refine bS ?_ (by first | assumption | (simp only []; omega) | omega)))⟩
    | true =>
      by_cases hn : n < 4
      · have dn : decide ((n : Int) < 4) = true := decide_eq_true (by omega)
        have HR := Lib.hid (show needsF fs k = 1 by
          unfold needsF; rw [if_neg h24, if_neg, if_pos (by rw [← HN.out]; exact hn)]
          have := HRb.out; rw [HN.out] at this; simpa using this.symm)
        clear h24 hn
        go_enter_defers Try.func15, Try.ntmps15
        go_wp2_with fail
        ((go_at_call 30); (with_reducible refine (encode_any _ _ _ fs l (FV.out.keep (by repeat (with_reducible first | exact Below.refl _ _ | apply bA | apply bD | apply bN))) HF.out (PV.out.keep (by repeat (with_reducible first | exact Below.refl _ _ | apply bA | apply bD | apply bN))) HL.out).mono ?_); rintro e w1 ⟨⟨v', rfl, ho⟩, hb1⟩; (have HB1 := Lib.hid (bT (w := w) ((by repeat (with_reducible first | exact HB.out | exact Below.refl _ _ | apply bA | apply bD | apply bN | refine bS ?_ (by first | assumption | (simp only []; omega) | omega)))) hb1)); clear HB; (have HB := HB1); clear HB1; (have hbb := HB.out); (have N_ := Lib.hid (FV.out.keep hbb)); clear FV; (have FV := N_); clear N_; (have N_ := Lib.hid (PV.out.keep hbb)); clear PV; (have PV := N_); clear N_; (have TX := Lib.hid (Two.keep (B := w.heap.size) (u := .int .i64 4) (v := .slice A n c) (by simp only [Two, ITwo, heap_drew, heap_drewN, heap_alloc_eq, size_alloc', size_drew, size_drewN, ↓reduceIte]; repeat (first | rw [if_pos (by omega)] | rw [if_neg (by omega)])) hb1)); (have ON := Lib.hid (One.keep (B := w.heap.size + 1) (v := .int .i64 0) (t := 3) (by simp only [One, Two, heap_drew, heap_drewN, heap_alloc_eq, size_alloc', size_drew, size_drewN, ↓reduceIte]; repeat (first | rw [if_pos (by omega)] | rw [if_neg (by omega)])) hb1)); (have OE := Lib.hid (One.keep (B := w.heap.size + 1 + 1) (v := .int .i64 0) (t := 3) (by simp only [One, Two, heap_drew, heap_drewN, heap_alloc_eq, size_alloc', size_drew, size_drewN, ↓reduceIte]; repeat (first | rw [if_pos (by omega)] | rw [if_neg (by omega)])) hb1)); (obtain ⟨A', c', rfl, _, _⟩ := ho.form); (rw [← HK.out] at ho ⊢); (have HO := Lib.hid ho); clear ho; clear hb1 hbb; (obtain ⟨wl, rfl⟩ : ∃ wl : World, wl = w1 := ⟨_, rfl⟩); (try clear hx0 hx1 fx0 fx1 lx); (obtain ⟨hx0, hx1, fx0, fx1, lx⟩ := TX.out.all); (try clear hn0 hn1 fn0 fn1 ln); (obtain ⟨hn0, hn1, fn0, fn1, ln⟩ := ON.out.all); (try clear he0 he1 fe0 fe1 le); (obtain ⟨he0, he1, fe0, fe1, le⟩ := OE.out.all); (have hse := OE.out.again))
        go_wp2_with fail
        ((go_at_call 31); (with_reducible refine (fits_any _ _ fs k (FV.out.keep (by repeat (with_reducible first | exact Below.refl _ _ | apply bA | apply bD | apply bN))) HF.out (by omega) (by omega)).mono ?_); rintro e w1 ⟨⟨r, rfl, hr⟩, hb1⟩; (have HB1 := Lib.hid (bT (w := w) ((by repeat (with_reducible first | exact HB.out | exact Below.refl _ _ | apply bA | apply bD | apply bN | refine bS ?_ (by first | assumption | (simp only []; omega) | omega)))) hb1)); clear HB; (have HB := HB1); clear HB1; (have hbb := bT (w := wl) (by repeat (with_reducible first | exact Below.refl _ _ | apply bA | apply bD | apply bN)) hb1); (have N_ := Lib.hid (TX.out.keep hbb)); clear TX; (have TX := N_); clear N_; (have N_ := Lib.hid (ON.out.keep hbb)); clear ON; (have ON := N_); clear N_; (have N_ := Lib.hid (OE.out.keep hbb)); clear OE; (have OE := N_); clear N_; (rw [← HN.out, ← HRb.out] at hr); (have hr2 := bne_of_true hr); (have HRR := Lib.hid hr); clear hr; clear hb1 hbb; (obtain ⟨wl, rfl⟩ : ∃ wl : World, wl = w1 := ⟨_, rfl⟩); (try clear hx0 hx1 fx0 fx1 lx); (obtain ⟨hx0, hx1, fx0, fx1, lx⟩ := TX.out.all); (try clear hn0 hn1 fn0 fn1 ln); (obtain ⟨hn0, hn1, fn0, fn1, ln⟩ := ON.out.all); (try clear he0 he1 fe0 fe1 le); (obtain ⟨he0, he1, fe0, fe1, le⟩ := OE.out.all); (have hse := OE.out.again))
        go_wp2
        rw [HR.out]
        exact needs_end (ON.out.set_.far ne) ((OE.out.far ne.symm).set_) rfl rfl ⟨rfl, (by repeat (with_reducible first | exact HB.out | exact Below.refl _ _ | apply bA | apply bD | apply bN | refine bS ?_ (by first | assumption | (simp only []; omega) | omega)))⟩
      · have dn : decide ((n : Int) < 4) = false := decide_eq_false (by omega)
        have HR := Lib.hid (show needsF fs k = -1 by
          unfold needsF; rw [if_neg h24, if_neg, if_neg (by rw [← HN.out]; exact hn)]
          have := HRb.out; rw [HN.out] at this; simpa using this.symm)
        clear h24 hn
        go_enter_defers Try.func15, Try.ntmps15
        go_wp2_with fail
        ((go_at_call 30); (with_reducible refine (encode_any _ _ _ fs l (FV.out.keep (by repeat (with_reducible first | exact Below.refl _ _ | apply bA | apply bD | apply bN))) HF.out (PV.out.keep (by repeat (with_reducible first | exact Below.refl _ _ | apply bA | apply bD | apply bN))) HL.out).mono ?_); rintro e w1 ⟨⟨v', rfl, ho⟩, hb1⟩; (have HB1 := Lib.hid (bT (w := w) ((by repeat (with_reducible first | exact HB.out | exact Below.refl _ _ | apply bA | apply bD | apply bN | refine bS ?_ (by first | assumption | (simp only []; omega) | omega)))) hb1)); clear HB; (have HB := HB1); clear HB1; (have hbb := HB.out); (have N_ := Lib.hid (FV.out.keep hbb)); clear FV; (have FV := N_); clear N_; (have N_ := Lib.hid (PV.out.keep hbb)); clear PV; (have PV := N_); clear N_; (have TX := Lib.hid (Two.keep (B := w.heap.size) (u := .int .i64 4) (v := .slice A n c) (by simp only [Two, ITwo, heap_drew, heap_drewN, heap_alloc_eq, size_alloc', size_drew, size_drewN, ↓reduceIte]; repeat (first | rw [if_pos (by omega)] | rw [if_neg (by omega)])) hb1)); (have ON := Lib.hid (One.keep (B := w.heap.size + 1) (v := .int .i64 0) (t := 3) (by simp only [One, Two, heap_drew, heap_drewN, heap_alloc_eq, size_alloc', size_drew, size_drewN, ↓reduceIte]; repeat (first | rw [if_pos (by omega)] | rw [if_neg (by omega)])) hb1)); (have OE := Lib.hid (One.keep (B := w.heap.size + 1 + 1) (v := .int .i64 0) (t := 3) (by simp only [One, Two, heap_drew, heap_drewN, heap_alloc_eq, size_alloc', size_drew, size_drewN, ↓reduceIte]; repeat (first | rw [if_pos (by omega)] | rw [if_neg (by omega)])) hb1)); (obtain ⟨A', c', rfl, _, _⟩ := ho.form); (rw [← HK.out] at ho ⊢); (have HO := Lib.hid ho); clear ho; clear hb1 hbb; (obtain ⟨wl, rfl⟩ : ∃ wl : World, wl = w1 := ⟨_, rfl⟩); (try clear hx0 hx1 fx0 fx1 lx); (obtain ⟨hx0, hx1, fx0, fx1, lx⟩ := TX.out.all); (try clear hn0 hn1 fn0 fn1 ln); (obtain ⟨hn0, hn1, fn0, fn1, ln⟩ := ON.out.all); (try clear he0 he1 fe0 fe1 le); (obtain ⟨he0, he1, fe0, fe1, le⟩ := OE.out.all); (have hse := OE.out.again))
        go_wp2_with fail
        ((go_at_call 31); (with_reducible refine (fits_any _ _ fs k (FV.out.keep (by repeat (with_reducible first | exact Below.refl _ _ | apply bA | apply bD | apply bN))) HF.out (by omega) (by omega)).mono ?_); rintro e w1 ⟨⟨r, rfl, hr⟩, hb1⟩; (have HB1 := Lib.hid (bT (w := w) ((by repeat (with_reducible first | exact HB.out | exact Below.refl _ _ | apply bA | apply bD | apply bN | refine bS ?_ (by first | assumption | (simp only []; omega) | omega)))) hb1)); clear HB; (have HB := HB1); clear HB1; (have hbb := bT (w := wl) (by repeat (with_reducible first | exact Below.refl _ _ | apply bA | apply bD | apply bN)) hb1); (have N_ := Lib.hid (TX.out.keep hbb)); clear TX; (have TX := N_); clear N_; (have N_ := Lib.hid (ON.out.keep hbb)); clear ON; (have ON := N_); clear N_; (have N_ := Lib.hid (OE.out.keep hbb)); clear OE; (have OE := N_); clear N_; (rw [← HN.out, ← HRb.out] at hr); (have hr2 := bne_of_true hr); (have HRR := Lib.hid hr); clear hr; clear hb1 hbb; (obtain ⟨wl, rfl⟩ : ∃ wl : World, wl = w1 := ⟨_, rfl⟩); (try clear hx0 hx1 fx0 fx1 lx); (obtain ⟨hx0, hx1, fx0, fx1, lx⟩ := TX.out.all); (try clear hn0 hn1 fn0 fn1 ln); (obtain ⟨hn0, hn1, fn0, fn1, ln⟩ := ON.out.all); (try clear he0 he1 fe0 fe1 le); (obtain ⟨he0, he1, fe0, fe1, le⟩ := OE.out.all); (have hse := OE.out.again))
        go_wp2
        rw [HR.out]
        exact needs_end (ON.out.set_.far ne) ((OE.out.far ne.symm).set_) rfl rfl ⟨rfl, (by repeat (with_reducible first | exact HB.out | exact Below.refl _ _ | apply bA | apply bD | apply bN | refine bS ?_ (by first | assumption | (simp only []; omega) | omega)))⟩
end Go.Proofs.Ytfdmmbalfjcehaa
