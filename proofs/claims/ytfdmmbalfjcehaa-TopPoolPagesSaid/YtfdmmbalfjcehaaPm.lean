/- Contract of pool.Store: the fault of a slot that is there, and of a full pool. -/
import Derived.Test.YtfdmmbalfjcehaaPl
namespace Go.Proofs.Ytfdmmbalfjcehaa
open Go.RowKit
set_option linter.unusedVariables false
set_option linter.unusedSimpArgs false
attribute [local go_sem] lt_more lt_more2 lt_more3 lt_more4 lt_more5 lt_more6 lt_more7 lt_more8 idx0 idx1

theorem FrsV.keep {w w' : World} {v : Value} {fs : List Fr} (h : FrsV w v fs) (hb : Below w.heap.size w w') : FrsV w' v fs := h.below hb
theorem ByV.keep {w w' : World} {v : Value} {l : List UInt8} (h : ByV w v l) (hb : Below w.heap.size w w') : ByV w' v l := h.below hb
theorem FrsB.keep {w w' : World} {base : Nat} {v : Value} {fs : List Fr} (h : FrsB w base v fs) (hb : Below w.heap.size w w') : FrsB w' base v fs := h.below hb
/-- A struct of two cells of type 52 (an item), whole, in a world. -/
def ITwo (w : World) (B : Nat) (u v : Value) : Prop := w.heap[B]? = some (.cells #[u, v] 52 (0, 0))
theorem ITwo.lt {w : World} {B : Nat} {u v : Value} (h : ITwo w B u v) : B < w.heap.size := (Array.getElem?_eq_some_iff.1 h).1
theorem ITwo.keep {W w1 : World} {B : Nat} {u v : Value} (h : ITwo W B u v) (hb : Below W.heap.size W w1) : ITwo w1 B u v := (hb.block B h.lt).trans h
theorem ITwo.all {w : World} {B : Nat} {u v : Value} (h : ITwo w B u v) : w.cell? ⟨B, 0, none⟩ = some u ∧ w.cell? ⟨B, 1, none⟩ = some v ∧ w.frozen? ⟨B, 0, none⟩ = false ∧ w.frozen? ⟨B, 1, none⟩ = false ∧ B < w.heap.size := by
  refine ⟨cell_of_row w B 0 _ 52 (0, 0) h, cell_of_row w B 1 _ 52 (0, 0) h, ?_, ?_, h.lt⟩ <;> (unfold ITwo at h; simp [World.frozen?, h])

set_option maxHeartbeats 4000000 in
set_option maxRecDepth 100000 in
theorem store_exist (w : World) (v dv : Value) (fs : List Fr) (slot frame : Int) (data : List UInt8) (hv : FrsV w v fs) (hf : Valid fs) (hd : ByV w dv data) (s1 : 0 ≤ slot) (s2 : slot < 64) (l1 : 1 ≤ data.length) (l2 : data.length ≤ 32)
    (i : Nat) (j : Int) (hn : findFrom fs 0 slot = ((i : Int), j)) :
    Calls Try.prog 33 #[.agg #[.int .i64 4, v], .int .i64 slot, dv, .int .i64 frame] w fun e w' => e = .returned (.tuple #[.agg #[.int .i64 0, .slice none 0 0], .int .i64 0, .int .i64 7]) ∧ Below w.heap.size w w' := by
  obtain ⟨A, c, rfl, hc, hm⟩ := hv.form
  obtain ⟨Ad, cd, rfl, _, _⟩ := hd.form
  have HB := Lib.hid (Below.refl w.heap.size w)
  have FV := Lib.hid hv
  have hn4 := hf.1
  obtain ⟨n, hn'⟩ : ∃ n, n = fs.length := ⟨_, rfl⟩
  obtain ⟨nd, hnd'⟩ : ∃ n, n = data.length := ⟨_, rfl⟩
  rw [← hn'] at hv hc FV ⊢
  rw [← hnd'] at l1 l2 ⊢
  have HF := Lib.hid hf
  have e1 : (findFrom fs 0 slot).1 = i := by rw [hn]
  have e2 : (findFrom fs 0 slot).2 = j := by rw [hn]
  have li1 : (1 : Int) ≤ nd := by omega
  have li2 : (nd : Int) ≤ 32 := by omega
  clear hn' hnd' hf hv hn hd
  go_enter Try.func33, Try.ntmps33
  go_wp2_with fail
  ((go_at_call 21); (with_reducible refine (check_one _ _ fs (FV.out.keep (by repeat (with_reducible first | exact Below.refl _ _ | apply bA | apply bD | apply bN))) HF.out).mono ?_); rintro e w1 ⟨rfl, hb1⟩; (have HB1 := Lib.hid (bT (w := w) ((by repeat (with_reducible first | exact HB.out | exact Below.refl _ _ | apply bA | apply bD | apply bN | refine bS ?_ (by first | assumption | (simp only []; omega) | omega)))) hb1)); clear HB; (have HB := HB1); clear HB1; (have hbb := HB.out); (have N_ := Lib.hid (FV.out.keep hbb)); clear FV; (have FV := N_); clear N_; (have TX := Lib.hid (Two.keep (B := w.heap.size) (u := .int .i64 4) (v := .slice A n c) (by simp only [Two, ITwo, heap_drew, heap_drewN, heap_alloc_eq, size_alloc', size_drew, size_drewN, ↓reduceIte]; repeat (first | rw [if_pos (by omega)] | rw [if_neg (by omega)])) hb1)); (have TR := Lib.hid (Two.keep (B := w.heap.size + 1) (u := .int .i64 0) (v := .slice none 0 0) (by simp only [Two, ITwo, heap_drew, heap_drewN, heap_alloc_eq, size_alloc', size_drew, size_drewN, ↓reduceIte]; repeat (first | rw [if_pos (by omega)] | rw [if_neg (by omega)])) hb1)); clear hb1 hbb; (obtain ⟨wl, rfl⟩ : ∃ wl : World, wl = w1 := ⟨_, rfl⟩); (try clear hx0 hx1 fx0 fx1 lx); (obtain ⟨hx0, hx1, fx0, fx1, lx⟩ := TX.out.all); (try clear hr0 hr1 fr0 fr1 lr); (obtain ⟨hr0, hr1, fr0, fr1, lr⟩ := TR.out.all); skip)
  go_wp2_with fail
  ((go_at_call 34); (with_reducible refine (find_any _ _ fs slot (FV.out.keep (by repeat (with_reducible first | exact Below.refl _ _ | apply bA | apply bD | apply bN))) (by omega)).mono ?_); rintro e w1 ⟨rfl, hb1⟩; (have HB1 := Lib.hid (bT (w := w) ((by repeat (with_reducible first | exact HB.out | exact Below.refl _ _ | apply bA | apply bD | apply bN | refine bS ?_ (by first | assumption | (simp only []; omega) | omega)))) hb1)); clear HB; (have HB := HB1); clear HB1; (have hbb := bT (w := wl) (by repeat (with_reducible first | exact Below.refl _ _ | apply bA | apply bD | apply bN)) hb1); (have N_ := Lib.hid (TX.out.keep hbb)); clear TX; (have TX := N_); clear N_; (have N_ := Lib.hid (TR.out.keep hbb)); clear TR; (have TR := N_); clear N_; (have N_ := Lib.hid (FV.out.keep hbb)); clear FV; (have FV := N_); clear N_; skip; clear hb1 hbb; (obtain ⟨wl, rfl⟩ : ∃ wl : World, wl = w1 := ⟨_, rfl⟩); (try clear hx0 hx1 fx0 fx1 lx); (obtain ⟨hx0, hx1, fx0, fx1, lx⟩ := TX.out.all); (try clear hr0 hr1 fr0 fr1 lr); (obtain ⟨hr0, hr1, fr0, fr1, lr⟩ := TR.out.all); skip)
  go_wp2_with fail
  ((go_at_call 47); (with_reducible refine (fail_any _ _).mono ?_); rintro e w1 ⟨rfl, hb1⟩; (have HB1 := Lib.hid (bT (w := w) ((by repeat (with_reducible first | exact HB.out | exact Below.refl _ _ | apply bA | apply bD | apply bN | refine bS ?_ (by first | assumption | (simp only []; omega) | omega)))) hb1)); clear HB; (have HB := HB1); clear HB1; (have hbb := bT (w := wl) (by repeat (with_reducible first | exact Below.refl _ _ | apply bA | apply bD | apply bN)) hb1); (have N_ := Lib.hid (TR.out.keep hbb)); clear TR; (have TR := N_); clear N_; skip; clear hb1 hbb; (obtain ⟨wl, rfl⟩ : ∃ wl : World, wl = w1 := ⟨_, rfl⟩); (try clear hr0 hr1 fr0 fr1 lr); (obtain ⟨hr0, hr1, fr0, fr1, lr⟩ := TR.out.all); skip)
  go_wp2
  exact bodyPost_ret (v := .tuple #[.agg #[.int .i64 0, .slice none 0 0], .int .i64 0, .int .i64 7]) (by simp [results, Try.results33, go_sem, hr0, hr1, fr0, fr1]) rfl ⟨rfl, (by repeat (with_reducible first | exact HB.out | exact Below.refl _ _ | apply bA | apply bD | apply bN | refine bS ?_ (by first | assumption | (simp only []; omega) | omega)))⟩
end Go.Proofs.Ytfdmmbalfjcehaa
