/- Contract of pool.Drop: an item that is there is taken out, its frame with it where it is the last. -/
import Derived.Test.YtfdmmbalfjcehaaPt
import Derived.BigRegion
import Derived.Deep.RegionWith
namespace Go.Proofs.Ytfdmmbalfjcehaa
open Go.RowKit
set_option linter.unusedVariables false
set_option linter.unusedSimpArgs false
attribute [local go_sem] lt_more lt_more2 lt_more3 lt_more4 lt_more5 lt_more6 lt_more7 lt_more8 idx0 idx1

theorem res27 {W : World} {R : Nat} {u v x y : Value} {a : Act} (h : Two W R u v) (h8 : a.tmps.getD 4 undef = .pointer (some ⟨R, 0, none⟩)) (h9 : a.tmps.getD 5 undef = x) (h10 : a.tmps.getD 6 undef = y) :
    (results Try.f27 a.tmps).run Try.prog W = .ok (.tuple #[.agg #[u, v], x, y]) W := by
  obtain ⟨c0, c1, _⟩ := h.all
  simp only [Array.getD_eq_getD_getElem?] at h8 h9 h10
  simp [results, Try.results27, go_sem, h8, h9, h10, c0, c1]
theorem clrA {w : World} {base g n c i : Nat} {fs : List Fr} {f : Fr} (h : FrsB w base (.slice (some ⟨g, 0, none⟩) n c) fs) (hi : fs[i]? = some f) :
    FrsB ((w.setCell ⟨g, i * 5 + 1, none⟩ (.int .i64 (-1))).setCell ⟨g, i * 5 + 2, none⟩ (.slice none 0 0)) base (.slice (some ⟨g, 0, none⟩) n c) (fs.set i { f with a := ⟨-1, []⟩ }) := by
  have hil := (List.getElem?_eq_some_iff.1 hi).1
  have h1 := h.store (k := i) 1 (by omega) (.int .i64 (-1)) { f with a := ⟨-1, f.a.data⟩ } (fun r f' hf hr => by
    obtain rfl : f' = f := by rw [hi] at hf; exact (Option.some.inj hf).symm
    obtain ⟨a, b, c, d, e⟩ := hr
    exact ⟨{ r with s0 := -1 }, rfl, a, rfl, c, d, e⟩) hil
  have h2 := h1.store (k := i) 2 (by omega) (.slice none 0 0) { f with a := ⟨-1, []⟩ } (fun r f' hf hr => by
    rw [List.getElem?_set, if_pos rfl, if_pos hil] at hf
    obtain rfl := Option.some.inj hf
    obtain ⟨a, b, c, d, e⟩ := hr
    exact ⟨{ r with v0 := .slice none 0 0 }, rfl, a, b, World.ownsRow_nil _ _ _ _, d, e⟩) (by simpa using hil)
  rw [List.set_set] at h2
  exact h2
theorem clrB {w : World} {base g n c i : Nat} {fs : List Fr} {f : Fr} (h : FrsB w base (.slice (some ⟨g, 0, none⟩) n c) fs) (hi : fs[i]? = some f) :
    FrsB ((w.setCell ⟨g, i * 5 + 3, none⟩ (.int .i64 (-1))).setCell ⟨g, i * 5 + 4, none⟩ (.slice none 0 0)) base (.slice (some ⟨g, 0, none⟩) n c) (fs.set i { f with b := ⟨-1, []⟩ }) := by
  have hil := (List.getElem?_eq_some_iff.1 hi).1
  have h1 := h.store (k := i) 3 (by omega) (.int .i64 (-1)) { f with b := ⟨-1, f.b.data⟩ } (fun r f' hf hr => by
    obtain rfl : f' = f := by rw [hi] at hf; exact (Option.some.inj hf).symm
    obtain ⟨a, b, c, d, e⟩ := hr
    exact ⟨{ r with s1 := -1 }, rfl, a, b, c, rfl, e⟩) hil
  have h2 := h1.store (k := i) 4 (by omega) (.slice none 0 0) { f with b := ⟨-1, []⟩ } (fun r f' hf hr => by
    rw [List.getElem?_set, if_pos rfl, if_pos hil] at hf
    obtain rfl := Option.some.inj hf
    obtain ⟨a, b, c, d, e⟩ := hr
    exact ⟨{ r with v1 := .slice none 0 0 }, rfl, a, b, c, d, World.ownsRow_nil _ _ _ _⟩) (by simpa using hil)
  rw [List.set_set] at h2
  exact h2

set_option maxHeartbeats 8000000 in
set_option maxRecDepth 100000 in
theorem drop_goneA (w : World) (v : Value) (fs : List Fr) (s : Int) (hv : FrsV w v fs) (hf : Valid fs) (i : Nat) (f : Fr) (hi : fs[i]? = some f) (hn : findFrom fs 0 s = ((i : Int), 0)) (ha : absB f.b.slot f.b.data.length = true) :
    Calls Try.prog 27 #[.agg #[.int .i64 4, v], .int .i64 s] w fun e w' => (∃ (v' : Value) (r : Int), e = .returned (.tuple #[.agg #[.int .i64 4, v'], .int .i64 r, .int .i64 0]) ∧ FrsB w' w.heap.size v' (fs.eraseIdx i)) ∧ Below w.heap.size w w' := by
  obtain ⟨A, c, rfl, hc, hm⟩ := hv.form
  have HB := Lib.hid (Below.refl w.heap.size w)
  have FV := Lib.hid hv
  have hn4 := hf.1
  obtain ⟨n, hn'⟩ : ∃ n, n = fs.length := ⟨_, rfl⟩
  rw [← hn'] at hv hc FV hn4 ⊢
  have HN := Lib.hid hn'
  have HF := Lib.hid hf
  have HK := Lib.hid hi
  have hin : i < n := by rw [HN.out]; exact (List.getElem?_eq_some_iff.1 hi).1
  have e1 : (findFrom fs 0 s).1 = i := by rw [hn]
  have e2 : (findFrom fs 0 s).2 = 0 := by rw [hn]
  clear hn' hf hv hn hi
  go_enter Try.func27, Try.ntmps27
  go_wp2_with fail
  ((go_at_call 21); (with_reducible refine (check_one _ _ fs (FV.out.keep (by repeat (with_reducible first | exact Below.refl _ _ | apply bA | apply bD | apply bN))) HF.out).mono ?_); rintro e w1 ⟨rfl, hb1⟩; (have HB1 := Lib.hid (bT (w := w) ((by repeat (with_reducible first | exact HB.out | exact Below.refl _ _ | apply bA | apply bD | apply bN | refine bS ?_ (by first | assumption | (simp only []; omega) | omega)))) hb1)); clear HB; (have HB := HB1); clear HB1; (have hbb := HB.out); (have N_ := Lib.hid (FV.out.keep hbb)); clear FV; (have FV := N_); clear N_; (have TX := Lib.hid (Two.keep (B := w.heap.size) (u := .int .i64 4) (v := .slice A n c) (by simp only [Two, ITwo, heap_drew, heap_drewN, heap_alloc_eq, size_alloc', size_drew, size_drewN, ↓reduceIte]; repeat (first | rw [if_pos (by omega)] | rw [if_neg (by omega)])) hb1)); (have TR := Lib.hid (Two.keep (B := w.heap.size + 1) (u := .int .i64 0) (v := .slice none 0 0) (by simp only [Two, ITwo, heap_drew, heap_drewN, heap_alloc_eq, size_alloc', size_drew, size_drewN, ↓reduceIte]; repeat (first | rw [if_pos (by omega)] | rw [if_neg (by omega)])) hb1)); clear hb1 hbb; (obtain ⟨wl, rfl⟩ : ∃ wl : World, wl = w1 := ⟨_, rfl⟩); (try clear hx0 hx1 fx0 fx1 lx); (obtain ⟨hx0, hx1, fx0, fx1, lx⟩ := TX.out.all); (try clear hr0 hr1 fr0 fr1 lr); (obtain ⟨hr0, hr1, fr0, fr1, lr⟩ := TR.out.all); skip)
  go_wp2_with fail
  ((go_at_call 34); (with_reducible refine (find_any _ _ fs s (FV.out.keep (by repeat (with_reducible first | exact Below.refl _ _ | apply bA | apply bD | apply bN))) (by have := HN.out; omega)).mono ?_); rintro e w1 ⟨rfl, hb1⟩; (have HB1 := Lib.hid (bT (w := w) ((by repeat (with_reducible first | exact HB.out | exact Below.refl _ _ | apply bA | apply bD | apply bN | refine bS ?_ (by first | assumption | (simp only []; omega) | omega)))) hb1)); clear HB; (have HB := HB1); clear HB1; (have hbb := bT (w := wl) (by repeat (with_reducible first | exact Below.refl _ _ | apply bA | apply bD | apply bN)) hb1); (have N_ := Lib.hid (TX.out.keep hbb)); clear TX; (have TX := N_); clear N_; (have N_ := Lib.hid (TR.out.keep hbb)); clear TR; (have TR := N_); clear N_; (have N_ := Lib.hid (FV.out.keep hbb)); clear FV; (have FV := N_); clear N_; skip; clear hb1 hbb; (obtain ⟨wl, rfl⟩ : ∃ wl : World, wl = w1 := ⟨_, rfl⟩); (try clear hx0 hx1 fx0 fx1 lx); (obtain ⟨hx0, hx1, fx0, fx1, lx⟩ := TX.out.all); (try clear hr0 hr1 fr0 fr1 lr); (obtain ⟨hr0, hr1, fr0, fr1, lr⟩ := TR.out.all); skip)
  go_wp2_with fail
  have hle := HB.out.size
  ((go_at_call 43); (with_reducible refine (pclone_any _ _ fs (FV.out.keep (by repeat (with_reducible first | exact Below.refl _ _ | apply bA | apply bD | apply bN))) HF.out).mono ?_); rintro e w1 ⟨v', rfl, ho, hb1⟩; (have HB1 := Lib.hid (bT (w := w) ((by repeat (with_reducible first | exact HB.out | exact Below.refl _ _ | apply bA | apply bD | apply bN | refine bS ?_ (by first | assumption | (simp only []; omega) | omega)))) hb1)); clear HB; (have HB := HB1); clear HB1; (have hbb := bT (w := wl) (by repeat (with_reducible first | exact Below.refl _ _ | apply bA | apply bD | apply bN)) hb1); (have N_ := Lib.hid (TR.out.keep hbb)); clear TR; (have TR := N_); clear N_; (obtain ⟨A', c', rfl, _, _⟩ := ho.toV.form); (rw [← HN.out] at ho ⊢); (have FR := Lib.hid (ho.mono hle)); clear ho; clear hb1 hbb; (obtain ⟨wl, rfl⟩ : ∃ wl : World, wl = w1 := ⟨_, rfl⟩); (try clear hr0 hr1 fr0 fr1 lr); (obtain ⟨hr0, hr1, fr0, fr1, lr⟩ := TR.out.all); skip)
  obtain ⟨g, v0, v1, rfl, hg, b0, b1, k0, k1, k2, k3, k4⟩ := FR.out.toV.at_ HK.out
  have ff := fun j => FR.out.frozen j
  obtain ⟨A0, c0, rfl, _, _⟩ := b0.form
  obtain ⟨A1, c1, rfl, _, _⟩ := b1.form
  obtain ⟨hgb, curg, hcurg⟩ := FR.out.heap
  have n2 := TR.out.ne hcurg
  have n4 := n2.symm
  have ngl : g ≠ wl.heap.size := by omega
  have ngl2 : wl.heap.size ≠ g := by omega
  have ntr : w.heap.size + 1 ≠ wl.heap.size := by omega
  have ntr2 : wl.heap.size ≠ w.heap.size + 1 := by omega
  have ntl : w.heap.size ≤ wl.heap.size := by omega
  clear b0 b1 hcurg
  go_wp2_with (first | ((go_at_call 23); (with_reducible refine (absent_any _ _ _ _ _).mono ?_); rintro e w1 ⟨rfl, rfl⟩) | ((go_at_call 44); (with_reducible refine (delete_fr _ w.heap.size g n c' i fs (FR.out.keep (by repeat (with_reducible first | exact Below.refl _ _ | apply bA | apply bD | apply bN))) (by have := HN.out; omega) (by have := HN.out; omega) (by have := HB.out.size; simp only [size_alloc', size_drew, size_drewN]; omega)).mono ?_); rintro e w1 ⟨rfl, ho, hk, hb1⟩; (have HB1 := Lib.hid (Below.trans (a := w) (by repeat (with_reducible first | exact HB.out | exact Below.refl _ _ | apply bA | apply bD | apply bN | refine bS ?_ (by first | assumption | (simp only []; omega) | omega))) hb1)); clear HB; (have HB := HB1); clear HB1; (have t1 := hk _ _ _ (TR.out.keep (by repeat (with_reducible first | exact Below.refl _ _ | apply bA | apply bD | apply bN)))); (have t2 := hk wl.heap.size (.int .i64 4) (.slice (some ⟨g, 0, none⟩) n c') (by simp only [Two, ITwo, heap_drew, heap_drewN, heap_alloc_eq, size_alloc', size_drew, size_drewN, ↓reduceIte]; repeat (first | rw [if_pos (by omega)] | rw [if_neg (by omega)]))); clear TR; (have TR := Lib.hid t1); (have T10 := Lib.hid t2); (have FN := Lib.hid ho); clear t1 t2 hk hb1 ho k0 k1 k2 k3 k4 ff; (try clear hr0 hr1 fr0 fr1 lr); (obtain ⟨hr0, hr1, fr0, fr1, lr⟩ := TR.out.all); (obtain ⟨ht0, ht1, ft0, ft1, lt⟩ := T10.out.all)))
  refine bodyPost_ret (v := .tuple #[.agg #[.int .i64 4, .slice (some ⟨g, 0, none⟩) (i + (n - (i + 1))) c'], .int .i64 f.num, .int .i64 0]) (res27 (R := w.heap.size + 1) ((TR.out.far ntr).set2) rfl rfl rfl) rfl ⟨⟨_, _, rfl, ?_⟩, (by repeat (with_reducible first | exact HB.out | exact Below.refl _ _ | apply bA | apply bD | apply bN | refine bS ?_ (by first | assumption | (simp only []; omega) | omega)))⟩
  exact (FN.out.far T10.out).two (TR.out.far ntr)
end Go.Proofs.Ytfdmmbalfjcehaa
