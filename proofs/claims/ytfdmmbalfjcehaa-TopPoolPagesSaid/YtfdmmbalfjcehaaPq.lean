/- Contract of pool.Store: a full pool; an item put into a frame that has room; an item in a new frame. -/
import Derived.Test.YtfdmmbalfjcehaaPn
import Derived.Deep.RegionWith
import Derived.BigRegion
namespace Go.Proofs.Ytfdmmbalfjcehaa
open Go.RowKit
set_option linter.unusedVariables false
set_option linter.unusedSimpArgs false
attribute [local go_sem] lt_more lt_more2 lt_more3 lt_more4 lt_more5 lt_more6 lt_more7 lt_more8 idx0 idx1


theorem ByV.grown {w w' : World} {v : Value} {l : List UInt8} (h : ByV w v l) {row : Option Nat} (hg : w.grownBy w' row) (hne : ∀ g, row = some g → ∃ cur fr, w.heap[g]? = some (.cells cur 55 fr)) : ByV w' v l := by
  refine ⟨h.1, ?_⟩
  rcases h.2 with hn | ⟨g', cap, cur', hv, hb, hh, r⟩
  · exact .inl hn
  · refine .inr ⟨g', cap, cur', hv, hb, ?_, r⟩
    rw [hg.block g' (Array.getElem?_eq_some_iff.1 hh).1 (by
      rintro rfl
      obtain ⟨cur, fr, h2⟩ := hne g' rfl
      rw [h2] at hh; injection hh with hh; injection hh with _ h3; exact absurd h3 (by decide))]
    exact hh
theorem new_cells (w : World) (l : List Value) (t : TypeId) : ∀ j u, l[j]? = some u → (w.alloc (.cells l.toArray t)).cell? ⟨w.heap.size, j, none⟩ = some u := fun j u hu =>
  (cell_of_row _ _ j _ t (0, 0) (heap_alloc_new w _)).trans (by simpa using hu)
theorem insert_fr (w : World) (base : Nat) (A : Option Addr) (n c : Nat) (fs : List Fr) (h : FrsB w base (.slice A n c) fs) (hn : fs.length ≤ 1000) (hb : base ≤ w.heap.size) (V cV : Nat) (r : Rw) (f : Fr)
    (hcells : ∀ j u, r.cells[j]? = some u → w.cell? ⟨V, j, none⟩ = some u) (hrel : RelR w r f) :
    Calls Try.prog 50 #[.slice A n c, .int .i64 n, .slice (some ⟨V, 0, none⟩) 1 cV] w fun e w' => ∃ v', e = .returned v' ∧ FrsB w' base v' (fs ++ [f]) ∧ (∀ B u v, Two w B u v → Two w' B u v) ∧ Below base w w' := by
  obtain ⟨rows, hr, ho, hrl⟩ := h
  obtain rfl : n = fs.length := by
    obtain ⟨A', c', hv, _⟩ := own_form (own_mono ho (Nat.zero_le _))
    injection hv
  refine (insert_end w base A fs.length c _ V cV r.cells ho hn rfl hcells ?_ hb).mono ?_
  · intro u hu
    obtain ⟨o0, o1⟩ := hrel.one_
    simp [Rw.cells] at hu
    rcases hu with rfl | rfl | rfl | rfl | rfl <;> first | rfl | assumption
  · rintro e w' ⟨v', rfl, ho', hg⟩
    have htype : ∀ g, (Value.slice A fs.length c).ownBlock = some g → base ≤ g ∧ ∃ cur fr, w.heap[g]? = some (.cells cur 55 fr) := by
      intro g hgv
      rcases ho.2 with ⟨hn, _⟩ | ⟨g', cap', cur', hv, hb, hh, r⟩
      · rw [hn] at hgv; cases hgv
      · rw [hv] at hgv; simp [Value.ownBlock] at hgv; subst hgv; exact ⟨hb, _, _, hh⟩
    have keep : ∀ r f, RelR w r f → RelR w' r f := fun r f ⟨a, b, c, d, e⟩ => ⟨a, b, c.grown hg (fun g hgv => (htype g hgv).2), d, e.grown hg (fun g hgv => (htype g hgv).2)⟩
    refine ⟨v', rfl, ⟨rows ++ [r], by simp [hr], by simpa using ho', ?_⟩, ?_, ?_⟩
    · intro k r' f' h1 h2
      rcases Nat.lt_or_ge k rows.length with hk | hk
      · rw [List.getElem?_append_left hk] at h1
        rw [List.getElem?_append_left (by omega)] at h2
        exact keep _ _ (hrl k r' f' h1 h2)
      · rw [List.getElem?_append_right hk] at h1
        rw [List.getElem?_append_right (by omega), ← hr] at h2
        cases hkk : k - rows.length with
        | zero => rw [hkk] at h1 h2; simp at h1 h2; subst h1; subst h2; exact keep _ _ hrel
        | succ m => rw [hkk] at h1; simp at h1
    · intro B u v hT
      refine (hg.block B hT.lt ?_).trans hT
      intro e
      obtain ⟨_, cur, fr, h2⟩ := htype B e.symm
      exact hT.ne h2 rfl
    · exact (Below.refl base w).grown hg hb (fun k hk => (htype k hk).1)

set_option maxHeartbeats 8000000 in
set_option maxRecDepth 100000 in
theorem store_new (w : World) (v dv : Value) (fs : List Fr) (slot frame : Int) (data : List UInt8) (hv : FrsV w v fs) (hf : Valid fs) (hd : ByV w dv data) (s1 : 0 ≤ slot) (s2 : slot < 64) (l1 : 1 ≤ data.length) (l2 : data.length ≤ 32)
    (hn : findFrom fs 0 slot = (-1, -1)) (hfit : fitTo fs data.length fs.length = -1) (h4 : fs.length < 4) (hx : ∀ f ∈ fs, f.num < frame) (x0 : 0 ≤ frame) (x1 : frame < 256) :
    Calls Try.prog 33 #[.agg #[.int .i64 4, v], .int .i64 slot, dv, .int .i64 frame] w fun e w' => (∃ v', e = .returned (.tuple #[.agg #[.int .i64 4, v'], .int .i64 frame, .int .i64 0]) ∧ FrsB w' w.heap.size v' (fs ++ [⟨frame, ⟨slot, data⟩, ⟨-1, []⟩⟩])) ∧ Below w.heap.size w w' := by
  obtain ⟨A, c, rfl, hc, hm⟩ := hv.form
  obtain ⟨Ad, cd, rfl, _, _⟩ := hd.form
  have HB := Lib.hid (Below.refl w.heap.size w)
  have FV := Lib.hid hv
  have DV := Lib.hid hd
  have hn4 := hf.1
  obtain ⟨n, hn'⟩ : ∃ n, n = fs.length := ⟨_, rfl⟩
  obtain ⟨nd, hnd'⟩ : ∃ n, n = data.length := ⟨_, rfl⟩
  rw [← hn'] at hv hc FV hn4 ⊢
  rw [← hnd'] at l1 l2 DV ⊢
  have HN := Lib.hid hn'
  have HND := Lib.hid hnd'
  have HF := Lib.hid hf
  have e1 : (findFrom fs 0 slot).1 = -1 := by rw [hn]
  have e2 : (findFrom fs 0 slot).2 = -1 := by rw [hn]
  have li1 : (1 : Int) ≤ nd := by omega
  have li2 : (nd : Int) ≤ 32 := by omega
  have HFit := Lib.hid (show fitTo fs (nd : Int) fs.length = -1 by rw [hnd']; exact hfit)
  have H4 := Lib.hid h4
  have HX := Lib.hid hx
  clear hfit h4 hx
  clear hn' hnd' hf hv hn hd
  go_enter Try.func33, Try.ntmps33
  go_wp2_with fail
  ((go_at_call 21); (with_reducible refine (check_one _ _ fs (FV.out.keep (by repeat (with_reducible first | exact Below.refl _ _ | apply bA | apply bD | apply bN))) HF.out).mono ?_); rintro e w1 ⟨rfl, hb1⟩; (have HB1 := Lib.hid (bT (w := w) ((by repeat (with_reducible first | exact HB.out | exact Below.refl _ _ | apply bA | apply bD | apply bN | refine bS ?_ (by first | assumption | (simp only []; omega) | omega)))) hb1)); clear HB; (have HB := HB1); clear HB1; (have hbb := HB.out); (have N_ := Lib.hid (FV.out.keep hbb)); clear FV; (have FV := N_); clear N_; (have N_ := Lib.hid (DV.out.keep hbb)); clear DV; (have DV := N_); clear N_; (have TX := Lib.hid (Two.keep (B := w.heap.size) (u := .int .i64 4) (v := .slice A n c) (by simp only [Two, ITwo, heap_drew, heap_drewN, heap_alloc_eq, size_alloc', size_drew, size_drewN, ↓reduceIte]; repeat (first | rw [if_pos (by omega)] | rw [if_neg (by omega)])) hb1)); (have TR := Lib.hid (Two.keep (B := w.heap.size + 1) (u := .int .i64 0) (v := .slice none 0 0) (by simp only [Two, ITwo, heap_drew, heap_drewN, heap_alloc_eq, size_alloc', size_drew, size_drewN, ↓reduceIte]; repeat (first | rw [if_pos (by omega)] | rw [if_neg (by omega)])) hb1)); clear hb1 hbb; (obtain ⟨wl, rfl⟩ : ∃ wl : World, wl = w1 := ⟨_, rfl⟩); (try clear hx0 hx1 fx0 fx1 lx); (obtain ⟨hx0, hx1, fx0, fx1, lx⟩ := TX.out.all); (try clear hr0 hr1 fr0 fr1 lr); (obtain ⟨hr0, hr1, fr0, fr1, lr⟩ := TR.out.all); skip)
  go_wp2_with fail
  ((go_at_call 34); (with_reducible refine (find_any _ _ fs slot (FV.out.keep (by repeat (with_reducible first | exact Below.refl _ _ | apply bA | apply bD | apply bN))) (by have := HN.out; omega)).mono ?_); rintro e w1 ⟨rfl, hb1⟩; (have HB1 := Lib.hid (bT (w := w) ((by repeat (with_reducible first | exact HB.out | exact Below.refl _ _ | apply bA | apply bD | apply bN | refine bS ?_ (by first | assumption | (simp only []; omega) | omega)))) hb1)); clear HB; (have HB := HB1); clear HB1; (have hbb := bT (w := wl) (by repeat (with_reducible first | exact Below.refl _ _ | apply bA | apply bD | apply bN)) hb1); (have N_ := Lib.hid (TX.out.keep hbb)); clear TX; (have TX := N_); clear N_; (have N_ := Lib.hid (TR.out.keep hbb)); clear TR; (have TR := N_); clear N_; (have N_ := Lib.hid (FV.out.keep hbb)); clear FV; (have FV := N_); clear N_; (have N_ := Lib.hid (DV.out.keep hbb)); clear DV; (have DV := N_); clear N_; skip; clear hb1 hbb; (obtain ⟨wl, rfl⟩ : ∃ wl : World, wl = w1 := ⟨_, rfl⟩); (try clear hx0 hx1 fx0 fx1 lx); (obtain ⟨hx0, hx1, fx0, fx1, lx⟩ := TX.out.all); (try clear hr0 hr1 fr0 fr1 lr); (obtain ⟨hr0, hr1, fr0, fr1, lr⟩ := TR.out.all); skip)
  go_wp2_with fail
  have hle := HB.out.size
  ((go_at_call 43); (with_reducible refine (pclone_any _ _ fs (FV.out.keep (by repeat (with_reducible first | exact Below.refl _ _ | apply bA | apply bD | apply bN))) HF.out).mono ?_); rintro e w1 ⟨v', rfl, ho, hb1⟩; (have HB1 := Lib.hid (bT (w := w) ((by repeat (with_reducible first | exact HB.out | exact Below.refl _ _ | apply bA | apply bD | apply bN | refine bS ?_ (by first | assumption | (simp only []; omega) | omega)))) hb1)); clear HB; (have HB := HB1); clear HB1; (have hbb := bT (w := wl) (by repeat (with_reducible first | exact Below.refl _ _ | apply bA | apply bD | apply bN)) hb1); (have N_ := Lib.hid (TR.out.keep hbb)); clear TR; (have TR := N_); clear N_; (have N_ := Lib.hid (DV.out.keep hbb)); clear DV; (have DV := N_); clear N_; (obtain ⟨A', c', rfl, _, _⟩ := ho.toV.form); (rw [← HN.out] at ho ⊢); (have FR := Lib.hid (ho.mono hle)); clear ho; clear hb1 hbb; (obtain ⟨wl, rfl⟩ : ∃ wl : World, wl = w1 := ⟨_, rfl⟩); (try clear hr0 hr1 fr0 fr1 lr); (obtain ⟨hr0, hr1, fr0, fr1, lr⟩ := TR.out.all); skip)
  go_wp2_with fail
  ((go_at_call 40); (with_reducible refine (bclone_any _ _ data (DV.out.keep (by repeat (with_reducible first | exact Below.refl _ _ | apply bA | apply bD | apply bN))) (by have := HND.out; omega)).mono ?_); rintro e w1 ⟨v', rfl, ho, hb1⟩; (have HB1 := Lib.hid (bT (w := w) ((by repeat (with_reducible first | exact HB.out | exact Below.refl _ _ | apply bA | apply bD | apply bN | refine bS ?_ (by first | assumption | (simp only []; omega) | omega)))) hb1)); clear HB; (have HB := HB1); clear HB1; (have hbb := bT (w := wl) (by repeat (with_reducible first | exact Below.refl _ _ | apply bA | apply bD | apply bN)) hb1); (have N_ := Lib.hid (TR.out.keep hbb)); clear TR; (have TR := N_); clear N_; (have N_ := Lib.hid (FR.out.keep hbb)); clear FR; (have FR := N_); clear N_; (obtain ⟨Ad', cd', rfl, _, _⟩ := ho.toV.form); (rw [← HND.out] at ho ⊢); (have DB := Lib.hid ho.toV); clear ho; (have T15 := Lib.hid (Two.keep (B := wl.heap.size) (u := .int .i64 4) (v := .slice A' n c') (by simp only [Two, ITwo, heap_drew, heap_drewN, heap_alloc_eq, size_alloc', size_drew, size_drewN, ↓reduceIte]; repeat (first | rw [if_pos (by omega)] | rw [if_neg (by omega)])) hb1)); (have ntl : w.heap.size ≤ wl.heap.size := (by omega)); (have ntr : w.heap.size + 1 ≠ wl.heap.size := (by omega)); (have ntr2 : wl.heap.size ≠ w.heap.size + 1 := (by omega)); clear hb1 hbb; (obtain ⟨wl, rfl⟩ : ∃ wl : World, wl = w1 := ⟨_, rfl⟩); (try clear hr0 hr1 fr0 fr1 lr); (obtain ⟨hr0, hr1, fr0, fr1, lr⟩ := TR.out.all); (try clear ht0 ht1 ft0 ft1 lt); (obtain ⟨ht0, ht1, ft0, ft1, lt⟩ := T15.out.all); skip)
  go_wp2_with fail
  ((go_at_call 46); (with_reducible refine (fit_any _ _ fs nd (FR.out.toV.keep (by repeat (with_reducible first | exact Below.refl _ _ | apply bA | apply bD | apply bN))) HF.out).mono ?_); rintro e w1 ⟨rfl, hb1⟩; (have HB1 := Lib.hid (bT (w := w) ((by repeat (with_reducible first | exact HB.out | exact Below.refl _ _ | apply bA | apply bD | apply bN | refine bS ?_ (by first | assumption | (simp only []; omega) | omega)))) hb1)); clear HB; (have HB := HB1); clear HB1; (have hbb := bT (w := wl) (by repeat (with_reducible first | exact Below.refl _ _ | apply bA | apply bD | apply bN)) hb1); (have N_ := Lib.hid (TR.out.keep hbb)); clear TR; (have TR := N_); clear N_; (have N_ := Lib.hid (FR.out.keep hbb)); clear FR; (have FR := N_); clear N_; (have N_ := Lib.hid (DB.out.keep hbb)); clear DB; (have DB := N_); clear N_; (have N_ := Lib.hid (T15.out.keep hbb)); clear T15; (have T15 := N_); clear N_; (have I16 := Lib.hid (ITwo.keep (B := wl.heap.size) (u := .int .i64 slot) (v := .slice Ad' nd cd') (by simp only [Two, ITwo, heap_drew, heap_drewN, heap_alloc_eq, size_alloc', size_drew, size_drewN, ↓reduceIte]; repeat (first | rw [if_pos (by omega)] | rw [if_neg (by omega)])) hb1)); (rw [HFit.out]); clear hb1 hbb; (obtain ⟨wl, rfl⟩ : ∃ wl : World, wl = w1 := ⟨_, rfl⟩); (try clear hr0 hr1 fr0 fr1 lr); (obtain ⟨hr0, hr1, fr0, fr1, lr⟩ := TR.out.all); (try clear ht0 ht1 ft0 ft1 lt); (obtain ⟨ht0, ht1, ft0, ft1, lt⟩ := T15.out.all); (try clear hi0 hi1 fi0 fi1 li); (obtain ⟨hi0, hi1, fi0, fi1, li⟩ := I16.out.all); skip)
  go_wp2_with fail
  ((go_at_call 48); (with_reducible refine (fresh_ok _ _ fs frame (FR.out.toV.keep (by repeat (with_reducible first | exact Below.refl _ _ | apply bA | apply bD | apply bN))) H4.out HX.out x0 x1).mono ?_); rintro e w1 ⟨rfl, hb1⟩; (have HB1 := Lib.hid (bT (w := w) ((by repeat (with_reducible first | exact HB.out | exact Below.refl _ _ | apply bA | apply bD | apply bN | refine bS ?_ (by first | assumption | (simp only []; omega) | omega)))) hb1)); clear HB; (have HB := HB1); clear HB1; (have hbb := bT (w := wl) (by repeat (with_reducible first | exact Below.refl _ _ | apply bA | apply bD | apply bN)) hb1); (have N_ := Lib.hid (TR.out.keep hbb)); clear TR; (have TR := N_); clear N_; (have N_ := Lib.hid (FR.out.keep hbb)); clear FR; (have FR := N_); clear N_; (have N_ := Lib.hid (DB.out.keep hbb)); clear DB; (have DB := N_); clear N_; (have N_ := Lib.hid (T15.out.keep hbb)); clear T15; (have T15 := N_); clear N_; (have N_ := Lib.hid (I16.out.keep hbb)); clear I16; (have I16 := N_); clear N_; skip; clear hb1 hbb; (obtain ⟨wl, rfl⟩ : ∃ wl : World, wl = w1 := ⟨_, rfl⟩); (try clear hr0 hr1 fr0 fr1 lr); (obtain ⟨hr0, hr1, fr0, fr1, lr⟩ := TR.out.all); (try clear ht0 ht1 ft0 ft1 lt); (obtain ⟨ht0, ht1, ft0, ft1, lt⟩ := T15.out.all); (try clear hi0 hi1 fi0 fi1 li); (obtain ⟨hi0, hi1, fi0, fi1, li⟩ := I16.out.all); skip)
  go_wp2_with fail
  ((go_at_call 49); (with_reducible refine (locate_end _ _ fs frame (FR.out.toV.keep (by repeat (with_reducible first | exact Below.refl _ _ | apply bA | apply bD | apply bN))) (by have := H4.out; omega) HX.out).mono ?_); rintro e w1 ⟨rfl, hb1⟩; (have HB1 := Lib.hid (bT (w := w) ((by repeat (with_reducible first | exact HB.out | exact Below.refl _ _ | apply bA | apply bD | apply bN | refine bS ?_ (by first | assumption | (simp only []; omega) | omega)))) hb1)); clear HB; (have HB := HB1); clear HB1; (have hbb := bT (w := wl) (by repeat (with_reducible first | exact Below.refl _ _ | apply bA | apply bD | apply bN)) hb1); (have N_ := Lib.hid (TR.out.keep hbb)); clear TR; (have TR := N_); clear N_; (have N_ := Lib.hid (FR.out.keep hbb)); clear FR; (have FR := N_); clear N_; (have N_ := Lib.hid (DB.out.keep hbb)); clear DB; (have DB := N_); clear N_; (have N_ := Lib.hid (T15.out.keep hbb)); clear T15; (have T15 := N_); clear N_; (have N_ := Lib.hid (I16.out.keep hbb)); clear I16; (have I16 := N_); clear N_; (rw [← HN.out]); clear hb1 hbb; (obtain ⟨wl, rfl⟩ : ∃ wl : World, wl = w1 := ⟨_, rfl⟩); (try clear hr0 hr1 fr0 fr1 lr); (obtain ⟨hr0, hr1, fr0, fr1, lr⟩ := TR.out.all); (try clear ht0 ht1 ft0 ft1 lt); (obtain ⟨ht0, ht1, ft0, ft1, lt⟩ := T15.out.all); (try clear hi0 hi1 fi0 fi1 li); (obtain ⟨hi0, hi1, fi0, fi1, li⟩ := I16.out.all); skip)
  go_wp2_with fail
  have hsz := HB.out.size
  go_region_with (first | ((go_at_call 45); (with_reducible refine (none_any _).mono ?_); rintro e w1 ⟨rfl, hb1⟩; (have HB1 := Lib.hid (bT (w := w) ((by repeat (with_reducible first | exact HB.out | exact Below.refl _ _ | apply bA | apply bD | apply bN | refine bS ?_ (by first | assumption | (simp only []; omega) | omega)))) hb1)); clear HB; (have HB := HB1); clear HB1; (have hbb := bT (w := wl) (by repeat (with_reducible first | exact Below.refl _ _ | apply bA | apply bD | apply bN)) hb1); (have N_ := Lib.hid (TR.out.keep hbb)); clear TR; (have TR := N_); clear N_; (have N_ := Lib.hid (FR.out.keep hbb)); clear FR; (have FR := N_); clear N_; (have N_ := Lib.hid (DB.out.keep hbb)); clear DB; (have DB := N_); clear N_; (have N_ := Lib.hid (T15.out.keep hbb)); clear T15; (have T15 := N_); clear N_; (have N_ := Lib.hid (I16.out.keep hbb)); clear I16; (have I16 := N_); clear N_; skip; clear hb1 hbb; (obtain ⟨wl, rfl⟩ : ∃ wl : World, wl = w1 := ⟨_, rfl⟩); (try clear hr0 hr1 fr0 fr1 lr); (obtain ⟨hr0, hr1, fr0, fr1, lr⟩ := TR.out.all); (try clear ht0 ht1 ft0 ft1 lt); (obtain ⟨ht0, ht1, ft0, ft1, lt⟩ := T15.out.all); (try clear hi0 hi1 fi0 fi1 li); (obtain ⟨hi0, hi1, fi0, fi1, li⟩ := I16.out.all); skip) | ((go_at_call 50); (with_reducible refine (insert_fr _ w.heap.size A' n c' fs (FR.out.keep (by repeat (with_reducible first | exact Below.refl _ _ | apply bA | apply bD | apply bN))) (by have := HN.out; omega) (by have := HB.out.size; simp only [size_alloc', size_drew, size_drewN]; omega) _ 1 ⟨frame, slot, .slice Ad' nd cd', -1, .slice none 0 0⟩ ⟨frame, ⟨slot, data⟩, ⟨-1, []⟩⟩ ?_ ?_).mono ?_); (focus (exact new_cells wl [.int .i64 frame, .int .i64 slot, .slice Ad' nd cd', .int .i64 (-1), .slice none 0 0] 55)); (focus (exact ⟨rfl, rfl, DB.out.keep (by repeat (with_reducible first | exact Below.refl _ _ | apply bA | apply bD | apply bN)), rfl, World.ownsRow_nil _ _ _ _⟩)); rintro e w1 ⟨v', rfl, ho, hk, hb1⟩; (obtain ⟨A2, c2, rfl, _, _⟩ := ho.toV.form); (rw [show (fs ++ [(⟨frame, ⟨slot, data⟩, ⟨-1, []⟩⟩ : Fr)]).length = n + 1 by rw [HN.out]; simp] at ho ⊢); (have HB1 := Lib.hid (Below.trans (a := w) (by repeat (with_reducible first | exact HB.out | exact Below.refl _ _ | apply bA | apply bD | apply bN | refine bS ?_ (by first | assumption | (simp only []; omega) | omega))) hb1)); clear HB; (have HB := HB1); clear HB1; (have t1 := hk _ _ _ (TR.out.keep (by repeat (with_reducible first | exact Below.refl _ _ | apply bA | apply bD | apply bN)))); (have t2 := hk _ _ _ (T15.out.keep (by repeat (with_reducible first | exact Below.refl _ _ | apply bA | apply bD | apply bN)))); clear TR T15; (have TR := Lib.hid t1); (have T15 := Lib.hid t2); (have FN := Lib.hid ho); clear t1 t2 hk hb1 ho; (obtain ⟨wl, rfl⟩ : ∃ wl : World, wl = w1 := ⟨_, rfl⟩); (try clear hr0 hr1 fr0 fr1 lr ht0 ht1 ft0 ft1 lt); (obtain ⟨hr0, hr1, fr0, fr1, lr⟩ := TR.out.all); (obtain ⟨ht0, ht1, ft0, ft1, lt⟩ := T15.out.all)))
  all_goals
    go_wp2
    refine bodyPost_ret (v := .tuple #[.agg #[.int .i64 4, .slice A2 (n + 1) c2], .int .i64 frame, .int .i64 0]) (res33 (R := w.heap.size + 1) ((TR.out.far ntr).set2) rfl rfl rfl) rfl ⟨⟨_, rfl, ?_⟩, (by repeat (with_reducible first | exact HB.out | exact Below.refl _ _ | apply bA | apply bD | apply bN | refine bS ?_ (by first | assumption | (simp only []; omega) | omega)))⟩
    exact (FN.out.far T15.out).two (TR.out.far ntr)
end Go.Proofs.Ytfdmmbalfjcehaa
