/- Contract of pool.Store: a full pool; an item put into a frame that has room; an item in a new frame. -/
import Derived.Test.YtfdmmbalfjcehaaPn
import Derived.Deep.RegionWith
import Derived.BigRegion
namespace Go.Proofs.Ytfdmmbalfjcehaa
open Go.RowKit
set_option linter.unusedVariables false
set_option linter.unusedSimpArgs false
attribute [local go_sem] lt_more lt_more2 lt_more3 lt_more4 lt_more5 lt_more6 lt_more7 lt_more8 idx0 idx1


set_option maxHeartbeats 8000000 in
set_option maxRecDepth 100000 in
theorem store_inB (w : World) (v dv : Value) (fs : List Fr) (slot frame : Int) (data : List UInt8) (hv : FrsV w v fs) (hf : Valid fs) (hd : ByV w dv data) (s1 : 0 ≤ slot) (s2 : slot < 64) (l1 : 1 ≤ data.length) (l2 : data.length ≤ 32)
    (hn : findFrom fs 0 slot = (-1, -1)) (i : Nat) (f : Fr) (hi : fs[i]? = some f) (ha : absB f.a.slot f.a.data.length = false) (hb : absB f.b.slot f.b.data.length = true) (hfit : fitTo fs data.length fs.length = (i : Int)) :
    Calls Try.prog 33 #[.agg #[.int .i64 4, v], .int .i64 slot, dv, .int .i64 frame] w fun e w' => (∃ v', e = .returned (.tuple #[.agg #[.int .i64 4, v'], .int .i64 f.num, .int .i64 0]) ∧ FrsB w' w.heap.size v' (fs.set i { f with b := ⟨slot, data⟩ })) ∧ Below w.heap.size w w' := by
  obtain ⟨A, c, rfl, hc, hm⟩ := hv.form
  obtain ⟨Ad, cd, rfl, _, _⟩ := hd.form
  have HB := Lib.hid (Below.refl w.heap.size w)
  have FV := Lib.hid hv
  have DV := Lib.hid hd
  have hn4 := hf.1
  obtain ⟨n, hn'⟩ : ∃ n, n = fs.length := ⟨_, rfl⟩
  obtain ⟨nd, hnd'⟩ : ∃ n, n = data.length := ⟨_, rfl⟩
  rw [← hn'] at hv hc FV hn4 ⊢
  rw [← hnd'] at l1 l2 DV ⊢
  have HN := Lib.hid hn'
  have HND := Lib.hid hnd'
  have HF := Lib.hid hf
  have e1 : (findFrom fs 0 slot).1 = -1 := by rw [hn]
  have e2 : (findFrom fs 0 slot).2 = -1 := by rw [hn]
  have li1 : (1 : Int) ≤ nd := by omega
  have li2 : (nd : Int) ≤ 32 := by omega
  have HFit := Lib.hid (show fitTo fs (nd : Int) fs.length = (i : Int) by rw [hnd']; exact hfit)
  have HK := Lib.hid hi
  have hin : i < n := by rw [HN.out]; exact (List.getElem?_eq_some_iff.1 hi).1
  have hde : Hid (f.b.data = []) := Lib.hid (by have := hb; simp [absB] at this; exact this.2)
  clear hfit hi
  clear hn' hnd' hf hv hn hd
  go_enter Try.func33, Try.ntmps33
  go_wp2_with fail
  ((go_at_call 21); (with_reducible refine (check_one _ _ fs (FV.out.keep (by repeat (with_reducible first | exact Below.refl _ _ | apply bA | apply bD | apply bN))) HF.out).mono ?_); rintro e w1 ⟨rfl, hb1⟩; (have HB1 := Lib.hid (bT (w := w) ((by repeat (with_reducible first | exact HB.out | exact Below.refl _ _ | apply bA | apply bD | apply bN | refine bS ?_ (by first | assumption | (simp only []; omega) | omega)))) hb1)); clear HB; (have HB := HB1); clear HB1; (have hbb := HB.out); (have N_ := Lib.hid (FV.out.keep hbb)); clear FV; (have FV := N_); clear N_; (have N_ := Lib.hid (DV.out.keep hbb)); clear DV; (have DV := N_); clear N_; (have TX := Lib.hid (Two.keep (B := w.heap.size) (u := .int .i64 4) (v := .slice A n c) (by simp only [Two, ITwo, heap_drew, heap_drewN, heap_alloc_eq, size_alloc', size_drew, size_drewN, ↓reduceIte]; repeat (first | rw [if_pos (by omega)] | rw [if_neg (by omega)])) hb1)); (have TR := Lib.hid (Two.keep (B := w.heap.size + 1) (u := .int .i64 0) (v := .slice none 0 0) (by simp only [Two, ITwo, heap_drew, heap_drewN, heap_alloc_eq, size_alloc', size_drew, size_drewN, ↓reduceIte]; repeat (first | rw [if_pos (by omega)] | rw [if_neg (by omega)])) hb1)); clear hb1 hbb; (obtain ⟨wl, rfl⟩ : ∃ wl : World, wl = w1 := ⟨_, rfl⟩); (try clear hx0 hx1 fx0 fx1 lx); (obtain ⟨hx0, hx1, fx0, fx1, lx⟩ := TX.out.all); (try clear hr0 hr1 fr0 fr1 lr); (obtain ⟨hr0, hr1, fr0, fr1, lr⟩ := TR.out.all); skip)
  go_wp2_with fail
  ((go_at_call 34); (with_reducible refine (find_any _ _ fs slot (FV.out.keep (by repeat (with_reducible first | exact Below.refl _ _ | apply bA | apply bD | apply bN))) (by have := HN.out; omega)).mono ?_); rintro e w1 ⟨rfl, hb1⟩; (have HB1 := Lib.hid (bT (w := w) ((by repeat (with_reducible first | exact HB.out | exact Below.refl _ _ | apply bA | apply bD | apply bN | refine bS ?_ (by first | assumption | (simp only []; omega) | omega)))) hb1)); clear HB; (have HB := HB1); clear HB1; (have hbb := bT (w := wl) (by repeat (with_reducible first | exact Below.refl _ _ | apply bA | apply bD | apply bN)) hb1); (have N_ := Lib.hid (TX.out.keep hbb)); clear TX; (have TX := N_); clear N_; (have N_ := Lib.hid (TR.out.keep hbb)); clear TR; (have TR := N_); clear N_; (have N_ := Lib.hid (FV.out.keep hbb)); clear FV; (have FV := N_); clear N_; (have N_ := Lib.hid (DV.out.keep hbb)); clear DV; (have DV := N_); clear N_; skip; clear hb1 hbb; (obtain ⟨wl, rfl⟩ : ∃ wl : World, wl = w1 := ⟨_, rfl⟩); (try clear hx0 hx1 fx0 fx1 lx); (obtain ⟨hx0, hx1, fx0, fx1, lx⟩ := TX.out.all); (try clear hr0 hr1 fr0 fr1 lr); (obtain ⟨hr0, hr1, fr0, fr1, lr⟩ := TR.out.all); skip)
  go_wp2_with fail
  have hle := HB.out.size
  ((go_at_call 43); (with_reducible refine (pclone_any _ _ fs (FV.out.keep (by repeat (with_reducible first | exact Below.refl _ _ | apply bA | apply bD | apply bN))) HF.out).mono ?_); rintro e w1 ⟨v', rfl, ho, hb1⟩; (have HB1 := Lib.hid (bT (w := w) ((by repeat (with_reducible first | exact HB.out | exact Below.refl _ _ | apply bA | apply bD | apply bN | refine bS ?_ (by first | assumption | (simp only []; omega) | omega)))) hb1)); clear HB; (have HB := HB1); clear HB1; (have hbb := bT (w := wl) (by repeat (with_reducible first | exact Below.refl _ _ | apply bA | apply bD | apply bN)) hb1); (have N_ := Lib.hid (TR.out.keep hbb)); clear TR; (have TR := N_); clear N_; (have N_ := Lib.hid (DV.out.keep hbb)); clear DV; (have DV := N_); clear N_; (obtain ⟨A', c', rfl, _, _⟩ := ho.toV.form); (rw [← HN.out] at ho ⊢); (have FR := Lib.hid (ho.mono hle)); clear ho; clear hb1 hbb; (obtain ⟨wl, rfl⟩ : ∃ wl : World, wl = w1 := ⟨_, rfl⟩); (try clear hr0 hr1 fr0 fr1 lr); (obtain ⟨hr0, hr1, fr0, fr1, lr⟩ := TR.out.all); skip)
  go_wp2_with fail
  ((go_at_call 40); (with_reducible refine (bclone_any _ _ data (DV.out.keep (by repeat (with_reducible first | exact Below.refl _ _ | apply bA | apply bD | apply bN))) (by have := HND.out; omega)).mono ?_); rintro e w1 ⟨v', rfl, ho, hb1⟩; (have HB1 := Lib.hid (bT (w := w) ((by repeat (with_reducible first | exact HB.out | exact Below.refl _ _ | apply bA | apply bD | apply bN | refine bS ?_ (by first | assumption | (simp only []; omega) | omega)))) hb1)); clear HB; (have HB := HB1); clear HB1; (have hbb := bT (w := wl) (by repeat (with_reducible first | exact Below.refl _ _ | apply bA | apply bD | apply bN)) hb1); (have N_ := Lib.hid (TR.out.keep hbb)); clear TR; (have TR := N_); clear N_; (have N_ := Lib.hid (FR.out.keep hbb)); clear FR; (have FR := N_); clear N_; (obtain ⟨Ad', cd', rfl, _, _⟩ := ho.toV.form); (rw [← HND.out] at ho ⊢); (have DB := Lib.hid ho.toV); clear ho; (have T15 := Lib.hid (Two.keep (B := wl.heap.size) (u := .int .i64 4) (v := .slice A' n c') (by simp only [Two, ITwo, heap_drew, heap_drewN, heap_alloc_eq, size_alloc', size_drew, size_drewN, ↓reduceIte]; repeat (first | rw [if_pos (by omega)] | rw [if_neg (by omega)])) hb1)); (have ntl : w.heap.size ≤ wl.heap.size := (by omega)); (have ntr : w.heap.size + 1 ≠ wl.heap.size := (by omega)); (have ntr2 : wl.heap.size ≠ w.heap.size + 1 := (by omega)); clear hb1 hbb; (obtain ⟨wl, rfl⟩ : ∃ wl : World, wl = w1 := ⟨_, rfl⟩); (try clear hr0 hr1 fr0 fr1 lr); (obtain ⟨hr0, hr1, fr0, fr1, lr⟩ := TR.out.all); (try clear ht0 ht1 ft0 ft1 lt); (obtain ⟨ht0, ht1, ft0, ft1, lt⟩ := T15.out.all); skip)
  go_wp2_with fail
  ((go_at_call 46); (with_reducible refine (fit_any _ _ fs nd (FR.out.toV.keep (by repeat (with_reducible first | exact Below.refl _ _ | apply bA | apply bD | apply bN))) HF.out).mono ?_); rintro e w1 ⟨rfl, hb1⟩; (have HB1 := Lib.hid (bT (w := w) ((by repeat (with_reducible first | exact HB.out | exact Below.refl _ _ | apply bA | apply bD | apply bN | refine bS ?_ (by first | assumption | (simp only []; omega) | omega)))) hb1)); clear HB; (have HB := HB1); clear HB1; (have hbb := bT (w := wl) (by repeat (with_reducible first | exact Below.refl _ _ | apply bA | apply bD | apply bN)) hb1); (have N_ := Lib.hid (TR.out.keep hbb)); clear TR; (have TR := N_); clear N_; (have N_ := Lib.hid (FR.out.keep hbb)); clear FR; (have FR := N_); clear N_; (have N_ := Lib.hid (DB.out.keep hbb)); clear DB; (have DB := N_); clear N_; (have N_ := Lib.hid (T15.out.keep hbb)); clear T15; (have T15 := N_); clear N_; (have I16 := Lib.hid (ITwo.keep (B := wl.heap.size) (u := .int .i64 slot) (v := .slice Ad' nd cd') (by simp only [Two, ITwo, heap_drew, heap_drewN, heap_alloc_eq, size_alloc', size_drew, size_drewN, ↓reduceIte]; repeat (first | rw [if_pos (by omega)] | rw [if_neg (by omega)])) hb1)); (rw [HFit.out]); clear hb1 hbb; (obtain ⟨wl, rfl⟩ : ∃ wl : World, wl = w1 := ⟨_, rfl⟩); (try clear hr0 hr1 fr0 fr1 lr); (obtain ⟨hr0, hr1, fr0, fr1, lr⟩ := TR.out.all); (try clear ht0 ht1 ft0 ft1 lt); (obtain ⟨ht0, ht1, ft0, ft1, lt⟩ := T15.out.all); (try clear hi0 hi1 fi0 fi1 li); (obtain ⟨hi0, hi1, fi0, fi1, li⟩ := I16.out.all); skip)
  obtain ⟨g, v0, v1, rfl, hg, b0, b1, k0, k1, k2, k3, k4⟩ := FR.out.toV.at_ HK.out
  have ff := fun j => FR.out.frozen j
  obtain ⟨hgb, curg, hcurg⟩ := FR.out.heap
  have n1 := T15.out.ne hcurg
  have n2 := TR.out.ne hcurg
  have n3 := n1.symm
  have n4 := n2.symm
  clear hcurg
  obtain ⟨A0, c0, rfl, _, _⟩ := b0.form
  obtain ⟨A1, c1, rfl, _, _⟩ := b1.form
  clear b0 b1
  go_wp2_with (first | ((go_at_call 23); (with_reducible refine (absent_any _ _ _ _ _).mono ?_); rintro e w1 ⟨rfl, rfl⟩))
  go_region
  go_wp2
  go_region
  all_goals
    go_wp2
    refine bodyPost_ret (v := .tuple #[.agg #[.int .i64 4, .slice (some ⟨g, 0, none⟩) n c'], .int .i64 f.num, .int .i64 0]) (res33 (R := w.heap.size + 1) ((((TR.out.far n2).far n2).set2).alloc _) rfl rfl rfl) rfl ⟨⟨_, rfl, ?_⟩, (by repeat (with_reducible first | exact HB.out | exact Below.refl _ _ | apply bA | apply bD | apply bN | refine bS ?_ (by first | assumption | (simp only []; omega) | omega)))⟩
    exact ((putB FR.out HK.out hde.out slot _ data DB.out).two ((TR.out.far n2).far n2)).alloc _
end Go.Proofs.Ytfdmmbalfjcehaa
