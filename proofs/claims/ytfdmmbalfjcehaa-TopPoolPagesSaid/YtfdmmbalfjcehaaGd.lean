/- Contract of dPooling: true. -/
import Derived.Test.YtfdmmbalfjcehaaGe
namespace Go.Proofs.Ytfdmmbalfjcehaa
open Go.RowKit
set_option linter.unusedVariables false
set_option linter.unusedSimpArgs false
attribute [local go_sem] lt_more lt_more2 lt_more3 lt_more4 lt_more5 lt_more6 lt_more7 lt_more8

theorem ex_ops {W : World} {B : Nat} (h : W.heap[B]? = some (.cells #[.int .u8 0, .int .u8 2, .int .u8 7, .int .u8 0, .int .u8 0, .int .u8 3, .int .u8 8, .int .u8 0, .int .u8 1, .int .u8 2, .int .u8 0, .int .u8 0] 37 (0, 0))) : OpsR W (.slice (some ⟨B, 0, none⟩) 3 3) exOps := by
  refine ⟨_, 3, rfl, Nat.le_refl _, by simp [maxLen], fun k x hx => ⟨B, 0, rfl, (Array.getElem?_eq_some_iff.1 h).1, ?_⟩⟩
  have c := fun j => cell_of_row W B j _ 37 (0, 0) h
  match k with
  | 0 => injection hx with hx; subst hx; exact ⟨c 0, c 1, c 2, c 3⟩
  | 1 => injection hx with hx; subst hx; exact ⟨c 4, c 5, c 6, c 7⟩
  | 2 => injection hx with hx; subst hx; exact ⟨c 8, c 9, c 10, c 11⟩
  | k + 3 => simp [exOps] at hx
theorem ex_J : J exSt := by
  have h : Runs exOps exSt := by
    have h1 : Runs [⟨0, 2, 7, 0⟩] _ := Runs.snoc [] ⟨0, 2, 7, 0⟩ st0 _ Runs.nil (.inr ⟨rfl, List.replicate 32 7, ⟨by simp, fun _ => rfl⟩, rfl⟩)
    have h2 : Runs [⟨0, 2, 7, 0⟩, ⟨0, 3, 8, 0⟩] _ := Runs.snoc [⟨0, 2, 7, 0⟩] ⟨0, 3, 8, 0⟩ _ _ h1 (.inr ⟨rfl, List.replicate 32 8, ⟨by simp, fun _ => rfl⟩, rfl⟩)
    have h3 : Runs exOps _ := Runs.snoc [⟨0, 2, 7, 0⟩, ⟨0, 3, 8, 0⟩] ⟨1, 2, 0, 0⟩ _ _ h2 (.inl ⟨rfl, rfl⟩)
    have e := ex_run h3
    rw [e] at h3
    exact h3
  exact (h.J (by decide)).1
set_option maxHeartbeats 8000000 in
set_option maxRecDepth 100000 in
theorem pooling_any (w : World) : Calls Try.prog 4 #[] w fun e w' => e = .returned (.bool true) ∧ Below w.heap.size w w' := by
  have HB := Lib.hid (Below.refl w.heap.size w)
  go_enter Try.func4, Try.ntmps4
  go_wp2_with fail
  ((go_at_call 5); (with_reducible refine (pooled_any _ _ exOps (ex_ops (heap_alloc_new w _)) (by decide)).mono ?_); rintro e w1 ⟨⟨fv, vs, st, rfl, hrun, ho, hpg⟩, hb1⟩; (have HB1 := Lib.hid (bT (w := w) ((by repeat (with_reducible first | exact HB.out | exact Below.refl _ _ | apply bA | apply bD | apply bN | refine bS ?_ (by first | assumption | (simp only []; omega) | omega)))) hb1)); clear HB; (have HB := HB1); clear HB1; (have hbb := HB.out); skip; (obtain rfl := ex_run hrun); (obtain ⟨A0, n0, c0, A1, n1, c1, A2, n2, c2, A3, n3, c3, A4, n4, c4, A5, n5, c5, A6, n6, c6, A7, n7, c7, A8, n8, c8, rfl⟩ := hpg.forms rfl); (obtain ⟨Af, cf, rfl, _, _⟩ := ho.form); (have HO := Lib.hid ho); (have HG := Lib.hid hpg); clear ho hpg hrun; clear hb1 hbb; (obtain ⟨wl, rfl⟩ : ∃ wl : World, wl = w1 := ⟨_, rfl⟩); skip; skip)
  go_wp2_with fail
  have s1 := ex_stored
  have s2 := ex_used
  have s3 := ex_saved
  have s4 := ex_find
  have S1 := Lib.hid s1
  have S2 := Lib.hid s2
  have S3 := Lib.hid s3
  have S4 := Lib.hid s4
  clear s1 s2 s3 s4
  obtain ⟨Bp, hBp⟩ : ∃ Bp, Bp = wl.heap.size := ⟨_, rfl⟩
  ((go_at_call 10); (with_reducible refine (stored_any _ #[.slice A0 n0 c0, .slice A1 n1 c1, .slice A2 n2 c2, .slice A3 n3 c3, .slice A4 n4 c4, .slice A5 n5 c5, .slice A6 n6 c6, .slice A7 n7 c7, .slice A8 n8 c8] exSt.pages (HG.out.keep (by repeat (with_reducible first | exact Below.refl _ _ | apply bA | apply bD | apply bN))) rfl ex_J.page).mono ?_); rintro e w1 ⟨rfl, hb1⟩; (have HB1 := Lib.hid (bT (w := w) ((by repeat (with_reducible first | exact HB.out | exact Below.refl _ _ | apply bA | apply bD | apply bN | refine bS ?_ (by first | assumption | (simp only []; omega) | omega)))) hb1)); clear HB; (have HB := HB1); clear HB1; (have hbb := bT (w := wl) (by repeat (with_reducible first | exact Below.refl _ _ | apply bA | apply bD | apply bN)) hb1); (have N_ := Lib.hid (HO.out.keep hbb)); clear HO; (have HO := N_); clear N_; (have N_ := Lib.hid (HG.out.keep hbb)); clear HG; (have HG := N_); clear N_; (rw [S1.out]); (have TX := Lib.hid (Two.keep (B := Bp) (u := .int .i64 4) (v := .slice Af exSt.fs.length cf) (by rw [hBp]; exact (by simp only [Two, ITwo, heap_drew, heap_drewN, heap_alloc_eq, size_alloc', size_drew, size_drewN, ↓reduceIte]; repeat (first | rw [if_pos (by omega)] | rw [if_neg (by omega)]))) hb1)); (have NX := Lib.hid (Nine.keep (B := Bp + 1) (vs := #[.slice A0 n0 c0, .slice A1 n1 c1, .slice A2 n2 c2, .slice A3 n3 c3, .slice A4 n4 c4, .slice A5 n5 c5, .slice A6 n6 c6, .slice A7 n7 c7, .slice A8 n8 c8]) (by rw [hBp]; exact (by simp only [Nine, Two, heap_drew, heap_drewN, heap_alloc_eq, size_alloc', size_drew, size_drewN, ↓reduceIte]; (repeat (first | rw [if_pos (by omega)] | rw [if_neg (by omega)])); try exact rfl)) hb1)); (rw [← hBp]); clear hBp; clear hb1 hbb; (obtain ⟨wl, rfl⟩ : ∃ wl : World, wl = w1 := ⟨_, rfl⟩); (try clear hx0 hx1 fx0 fx1 lx); (obtain ⟨hx0, hx1, fx0, fx1, lx⟩ := TX.out.all); skip)
  go_wp2_with fail
  ((go_at_call 8); (with_reducible refine (used_any _ _ exSt.fs (HO.out.keep (by repeat (with_reducible first | exact Below.refl _ _ | apply bA | apply bD | apply bN))) ex_J.valid).mono ?_); rintro e w1 ⟨rfl, hb1⟩; (have HB1 := Lib.hid (bT (w := w) ((by repeat (with_reducible first | exact HB.out | exact Below.refl _ _ | apply bA | apply bD | apply bN | refine bS ?_ (by first | assumption | (simp only []; omega) | omega)))) hb1)); clear HB; (have HB := HB1); clear HB1; (have hbb := bT (w := wl) (by repeat (with_reducible first | exact Below.refl _ _ | apply bA | apply bD | apply bN)) hb1); (have N_ := Lib.hid (TX.out.keep hbb)); clear TX; (have TX := N_); clear N_; (have N_ := Lib.hid (HO.out.keep hbb)); clear HO; (have HO := N_); clear N_; (rw [S2.out]); clear hb1 hbb; (obtain ⟨wl, rfl⟩ : ∃ wl : World, wl = w1 := ⟨_, rfl⟩); (try clear hx0 hx1 fx0 fx1 lx); (obtain ⟨hx0, hx1, fx0, fx1, lx⟩ := TX.out.all); skip)
  go_wp2_with fail
  ((go_at_call 11); (with_reducible refine (saved_any _ _ exSt.fs (HO.out.keep (by repeat (with_reducible first | exact Below.refl _ _ | apply bA | apply bD | apply bN))) ex_J.valid).mono ?_); rintro e w1 ⟨rfl, hb1⟩; (have HB1 := Lib.hid (bT (w := w) ((by repeat (with_reducible first | exact HB.out | exact Below.refl _ _ | apply bA | apply bD | apply bN | refine bS ?_ (by first | assumption | (simp only []; omega) | omega)))) hb1)); clear HB; (have HB := HB1); clear HB1; (have hbb := bT (w := wl) (by repeat (with_reducible first | exact Below.refl _ _ | apply bA | apply bD | apply bN)) hb1); (have N_ := Lib.hid (TX.out.keep hbb)); clear TX; (have TX := N_); clear N_; (have N_ := Lib.hid (HO.out.keep hbb)); clear HO; (have HO := N_); clear N_; (rw [S3.out]); clear hb1 hbb; (obtain ⟨wl, rfl⟩ : ∃ wl : World, wl = w1 := ⟨_, rfl⟩); (try clear hx0 hx1 fx0 fx1 lx); (obtain ⟨hx0, hx1, fx0, fx1, lx⟩ := TX.out.all); skip)
  go_wp2_with fail
  ((go_at_call 6); (with_reducible refine (Has_any _ _ exSt.fs 3 (HO.out.keep (by repeat (with_reducible first | exact Below.refl _ _ | apply bA | apply bD | apply bN))) ex_J.valid).mono ?_); rintro e w1 ⟨rfl, hb1⟩; (have HB1 := Lib.hid (bT (w := w) ((by repeat (with_reducible first | exact HB.out | exact Below.refl _ _ | apply bA | apply bD | apply bN | refine bS ?_ (by first | assumption | (simp only []; omega) | omega)))) hb1)); clear HB; (have HB := HB1); clear HB1; (have hbb := bT (w := wl) (by repeat (with_reducible first | exact Below.refl _ _ | apply bA | apply bD | apply bN)) hb1); (have N_ := Lib.hid (TX.out.keep hbb)); clear TX; (have TX := N_); clear N_; (have N_ := Lib.hid (HO.out.keep hbb)); clear HO; (have HO := N_); clear N_; (rw [S4.out]); clear hb1 hbb; (obtain ⟨wl, rfl⟩ : ∃ wl : World, wl = w1 := ⟨_, rfl⟩); (try clear hx0 hx1 fx0 fx1 lx); (obtain ⟨hx0, hx1, fx0, fx1, lx⟩ := TX.out.all); skip)
  go_wp2
  go_ret
  exact ⟨rfl, (by repeat (with_reducible first | exact HB.out | exact Below.refl _ _ | apply bA | apply bD | apply bN | refine bS ?_ (by first | assumption | (simp only []; omega) | omega)))⟩
end Go.Proofs.Ytfdmmbalfjcehaa
