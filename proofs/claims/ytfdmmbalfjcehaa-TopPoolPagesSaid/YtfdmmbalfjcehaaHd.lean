/- Contract of zswap.Store over a valid pool. -/
import Derived.Test.YtfdmmbalfjcehaaHb
import Derived.Test.YtfdmmbalfjcehaaHc
namespace Go.Proofs.Ytfdmmbalfjcehaa
open Go.RowKit
set_option linter.unusedVariables false
set_option linter.unusedSimpArgs false
attribute [local go_sem] lt_more lt_more2 lt_more3 lt_more4 lt_more5 lt_more6 lt_more7 lt_more8 idx0 idx1

/-- A store of what is there already turns nothing. -/
theorem setCell_again {w : World} {B o : Nat} {t : TypeId} {cs : Array Value} {fr : Nat × Nat} {v : Value} (h : w.heap[B]? = some (.cells cs t fr)) (hv : cs[o]? = some v) : w.setCell ⟨B, o, none⟩ v = w := by
  have hl : B < w.heap.size := (Array.getElem?_eq_some_iff.1 h).1
  have he : w.heap[B] = .cells cs t fr := (Array.getElem?_eq_some_iff.1 h).2
  unfold World.setCell
  cases w
  simp only [World.mk.injEq]
  simp only [and_true, true_and]
  apply Array.ext_getElem?
  intro i
  rw [Array.getElem?_modify]
  split
  · rename_i h2
    subst h2
    simp only at h
    rw [h]
    simp
    apply Array.ext_getElem?
    intro j
    rw [Array.getElem?_setIfInBounds]
    split
    · rename_i h3; subst h3; rw [if_pos (Array.getElem?_eq_some_iff.1 hv).1, hv]
    · rfl
  · rfl
theorem Two.again {w : World} {B : Nat} {u v : Value} (h : Two w B u v) : w.setCell ⟨B, 0, none⟩ u = w ∧ w.setCell ⟨B, 1, none⟩ v = w := ⟨setCell_again h rfl, setCell_again h rfl⟩

theorem Two.set0 {w : World} {B : Nat} {u v u' : Value} (h : Two w B u v) : Two (w.setCell ⟨B, 0, none⟩ u') B u' v := by
  unfold Two at h ⊢; simp [World.setCell, Array.getElem?_modify, h]
theorem ByV.farT {w : World} {v : Value} {l : List UInt8} (h : ByV w v l) {g t : Nat} {cur : Array Value} {fr : Nat × Nat} (hg : w.heap[g]? = some (.cells cur t fr)) (h5 : t ≠ 5) {o : Nat} {u : Value} : ByV (w.setCell ⟨g, o, none⟩ u) v l := own_far h hg h5
theorem FrsV.farT {w : World} {v : Value} {fs : List Fr} (h : FrsV w v fs) {g t : Nat} {cur : Array Value} {fr : Nat × Nat} (hg : w.heap[g]? = some (.cells cur t fr)) (h55 : t ≠ 55) (h5 : t ≠ 5) {o : Nat} {u : Value} : FrsV (w.setCell ⟨g, o, none⟩ u) v fs := by
  obtain ⟨rows, hl, ho, hr⟩ := h
  exact ⟨rows, hl, own_far ho hg h55, fun k r f h1 h2 => let ⟨a, b, c, d, e⟩ := hr k r f h1 h2; ⟨a, b, c.farT hg h5, d, e.farT hg h5⟩⟩
theorem FrsV.two {w : World} {v : Value} {fs : List Fr} (h : FrsV w v fs) {B : Nat} {x y x' y' : Value} (hg : Two w B x y) : FrsV ((w.setCell ⟨B, 0, none⟩ x').setCell ⟨B, 1, none⟩ y') v fs :=
  (h.farT hg (by decide) (by decide)).farT hg.set0 (by decide) (by decide)
theorem FrsV.one {w : World} {v : Value} {fs : List Fr} (h : FrsV w v fs) {B : Nat} {x x' : Value} (hg : One w B 3 x) : FrsV (w.setCell ⟨B, 0, none⟩ x') v fs :=
  h.farT hg (by decide) (by decide)

theorem zs_defer0 (w : World) (e n : Nat) (u : FrameMode) (he : One w e 3 (.int .i64 0)) :
    CallsD Try.prog 32 #[.pointer (some ⟨e, 0, none⟩), .pointer (some ⟨n, 0, none⟩)] u w fun r u' w' => u' = u ∧ (r = .returned (.tuple #[]) ∧ w = w') := by
  have c := he.cell
  clear he
  go_enter_d Try.func32, Try.ntmps32
  go_wp2
  go_end0
  exact ⟨rfl, rfl⟩
theorem zs_defer1 (w : World) (e n : Nat) (u : FrameMode) (r : Int) (hr : (r != 0) = true) (he : One w e 3 (.int .i64 r)) (hn : Two w n (.int .i64 0) (.slice none 0 0)) :
    CallsD Try.prog 32 #[.pointer (some ⟨e, 0, none⟩), .pointer (some ⟨n, 0, none⟩)] u w fun r u' w' => u' = u ∧ (r = .returned (.tuple #[]) ∧ w = w') := by
  have c := he.cell
  obtain ⟨a1, a2⟩ := hn.again
  obtain ⟨c1, c2, f1, f2, l⟩ := hn.all
  clear he hn
  go_enter_d Try.func32, Try.ntmps32
  go_wp2
  go_end0
  exact ⟨rfl, rfl⟩
theorem zs_end {W : World} {tmps : Array Value} {R : Ending → World → Prop} {e n : Nat} {r : Int} {x y : Value} (hr : r = 0 ∨ ((r != 0) = true ∧ x = .int .i64 0 ∧ y = .slice none 0 0)) (On : Two W n x y) (Oe : One W e 3 (.int .i64 r)) (h4 : tmps.getD 8 undef = .pointer (some ⟨n, 0, none⟩)) (h5 : tmps.getD 9 undef = .pointer (some ⟨e, 0, none⟩)) (hR : R (.returned (.tuple #[.agg #[x, y], .int .i64 r])) W) :
    Leaves Try.prog Try.f16 tmps R [{ target := .fn (.func 32) #[.pointer (some ⟨e, 0, none⟩), .pointer (some ⟨n, 0, none⟩)], args := #[] }] .returning W := by
  refine leaves_cons (f := 32) (args := #[.pointer (some ⟨e, 0, none⟩), .pointer (some ⟨n, 0, none⟩)]) (by simp) (by simp [go_sem]) ?_
  have key : CallsD Try.prog 32 #[.pointer (some ⟨e, 0, none⟩), .pointer (some ⟨n, 0, none⟩)] .returning W fun r u' w' => u' = .returning ∧ (r = .returned (.tuple #[]) ∧ W = w') := by
    rcases hr with rfl | ⟨hr, rfl, rfl⟩
    · exact zs_defer0 W e n _ Oe
    · exact zs_defer1 W e n _ r hr Oe On
  refine key.mono ?_
  rintro r u' w'' ⟨rfl, rfl, rfl⟩
  refine ⟨_, ?_, hR⟩
  obtain ⟨c1, c2, _⟩ := On.all
  have c3 := Oe.cell
  simp only [Array.getD_eq_getD_getElem?] at h4 h5
  simp [results, Try.results16, go_sem, h4, h5, c1, c2, c3]

set_option maxHeartbeats 8000000 in
set_option maxRecDepth 100000 in
theorem zstore_ok (w : World) (v pv : Value) (fs fs' : List Fr) (slot frame : Int) (l : List UInt8) (hv : FrsV w v fs) (hf : Valid fs) (hp : ByV w pv l) (hl : l.length = 32) (s1 : 0 ≤ slot) (s2 : slot < 64)
    (hx : ∀ f ∈ fs, f.num < frame) (x0 : 0 ≤ frame) (x1 : frame < 256) (hk24 : (packF l).length ≤ 24) (hs : storeF fs slot (packF l) frame = some fs') :
    Calls Try.prog 16 #[.agg #[.int .i64 4, v], .int .i64 slot, pv, .int .i64 frame] w fun e w' => (∃ v', e = .returned (.tuple #[.agg #[.int .i64 4, v'], .int .i64 0]) ∧ FrsV w' v' fs') ∧ Below w.heap.size w w' := by
  obtain ⟨A, c, rfl, hc, hm⟩ := hv.form
  obtain ⟨Ap, cp, rfl, _, _⟩ := hp.form
  have HB := Lib.hid (Below.refl w.heap.size w)
  have FV := Lib.hid hv
  have PV := Lib.hid hp
  have hn4 := hf.1
  obtain ⟨n, hn'⟩ : ∃ n, n = fs.length := ⟨_, rfl⟩
  rw [← hn'] at hv hc FV hn4 ⊢
  rw [hl] at PV ⊢
  obtain ⟨k, hk'⟩ : ∃ k, k = (packF l).length := ⟨_, rfl⟩
  rw [← hk'] at hk24
  have hk1 : 1 ≤ k := by rw [hk']; exact packF_pos l
  have HN := Lib.hid hn'
  have HK := Lib.hid hk'
  have HF := Lib.hid hf
  have HL := Lib.hid hl
  have HX := Lib.hid hx
  have HS := Lib.hid hs
  have ne : w.heap.size + 1 ≠ w.heap.size + 1 + 1 := by omega
  have d24 : decide ((24 : Int) < k) = false := decide_eq_false (by omega)
  clear hn' hf hv hp hl hk' hx hs
  go_enter_defers Try.func16, Try.ntmps16
  go_wp2_with fail
  ((go_at_call 30); (with_reducible refine (encode_any _ _ _ fs l (FV.out.keep (by repeat (with_reducible first | exact Below.refl _ _ | apply bA | apply bD | apply bN))) HF.out (PV.out.keep (by repeat (with_reducible first | exact Below.refl _ _ | apply bA | apply bD | apply bN))) HL.out).mono ?_); rintro e w1 ⟨⟨v', rfl, ho⟩, hb1⟩; (have HB1 := Lib.hid (bT (w := w) ((by repeat (with_reducible first | exact HB.out | exact Below.refl _ _ | apply bA | apply bD | apply bN | refine bS ?_ (by first | assumption | (simp only []; omega) | omega)))) hb1)); clear HB; (have HB := HB1); clear HB1; (have hbb := HB.out); (have N_ := Lib.hid (FV.out.keep hbb)); clear FV; (have FV := N_); clear N_; (have N_ := Lib.hid (PV.out.keep hbb)); clear PV; (have PV := N_); clear N_; (have TX := Lib.hid (Two.keep (B := w.heap.size) (u := .int .i64 4) (v := .slice A n c) (by simp only [Two, ITwo, heap_drew, heap_drewN, heap_alloc_eq, size_alloc', size_drew, size_drewN, ↓reduceIte]; repeat (first | rw [if_pos (by omega)] | rw [if_neg (by omega)])) hb1)); (have TR := Lib.hid (Two.keep (B := w.heap.size + 1) (u := .int .i64 0) (v := .slice none 0 0) (by simp only [Two, ITwo, heap_drew, heap_drewN, heap_alloc_eq, size_alloc', size_drew, size_drewN, ↓reduceIte]; repeat (first | rw [if_pos (by omega)] | rw [if_neg (by omega)])) hb1)); (have OE := Lib.hid (One.keep (B := w.heap.size + 1 + 1) (v := .int .i64 0) (t := 3) (by simp only [One, Two, heap_drew, heap_drewN, heap_alloc_eq, size_alloc', size_drew, size_drewN, ↓reduceIte]; repeat (first | rw [if_pos (by omega)] | rw [if_neg (by omega)])) hb1)); (obtain ⟨A', c', rfl, _, _⟩ := ho.form); (rw [← HK.out] at ho ⊢); (have HO := Lib.hid ho); clear ho; clear hb1 hbb; (obtain ⟨wl, rfl⟩ : ∃ wl : World, wl = w1 := ⟨_, rfl⟩); (try clear hx0 hx1 fx0 fx1 lx); (obtain ⟨hx0, hx1, fx0, fx1, lx⟩ := TX.out.all); (try clear hr0 hr1 fr0 fr1 lr); (obtain ⟨hr0, hr1, fr0, fr1, lr⟩ := TR.out.all); (try clear he0 he1 fe0 fe1 le); (obtain ⟨he0, he1, fe0, fe1, le⟩ := OE.out.all); (have hse := OE.out.again))
  go_wp2_with fail
  ((go_at_call 33); (with_reducible refine (pstore_ok _ _ _ fs fs' slot frame (packF l) (FV.out.keep (by repeat (with_reducible first | exact Below.refl _ _ | apply bA | apply bD | apply bN))) HF.out (HO.out.keep (by repeat (with_reducible first | exact Below.refl _ _ | apply bA | apply bD | apply bN))) s1 s2 (by rw [← HK.out]; exact hk1) (by rw [← HK.out]; omega) HX.out x0 x1 HS.out).mono ?_); rintro e w1 ⟨⟨v2, r2, rfl, ho2⟩, hb1⟩; (have HB1 := Lib.hid (bT (w := w) ((by repeat (with_reducible first | exact HB.out | exact Below.refl _ _ | apply bA | apply bD | apply bN | refine bS ?_ (by first | assumption | (simp only []; omega) | omega)))) hb1)); clear HB; (have HB := HB1); clear HB1; (have hbb := bT (w := wl) (by repeat (with_reducible first | exact Below.refl _ _ | apply bA | apply bD | apply bN)) hb1); (have N_ := Lib.hid (TR.out.keep hbb)); clear TR; (have TR := N_); clear N_; (have N_ := Lib.hid (OE.out.keep hbb)); clear OE; (have OE := N_); clear N_; (obtain ⟨A2, c2, rfl, _, _⟩ := ho2.form); (have HO2 := Lib.hid ho2); clear ho2; clear hb1 hbb; (obtain ⟨wl, rfl⟩ : ∃ wl : World, wl = w1 := ⟨_, rfl⟩); (try clear hr0 hr1 fr0 fr1 lr); (obtain ⟨hr0, hr1, fr0, fr1, lr⟩ := TR.out.all); (try clear he0 he1 fe0 fe1 le); (obtain ⟨he0, he1, fe0, fe1, le⟩ := OE.out.all); (have hse := OE.out.again))
  go_upto_region 8 with (fail)
  refine wp_gen (fun W => Hid (Two W (w.heap.size + 1) (.int .i64 4) (.slice A2 fs'.length c2)) ∧ Hid (One W (w.heap.size + 1 + 1) 3 (.int .i64 0)) ∧ Hid (FrsV W (.slice A2 fs'.length c2) fs') ∧ Hid (Below w.heap.size w W)) ⟨Lib.hid (TR.out.set2.far ne), Lib.hid ((OE.out.far ne.symm).far ne.symm).set_, Lib.hid ((HO2.out.two TR.out).one ((OE.out.far ne.symm).far ne.symm)), Lib.hid (by repeat (with_reducible first | exact HB.out | exact Below.refl _ _ | apply bA | apply bD | apply bN | refine bS ?_ (by first | assumption | (simp only []; omega) | omega)))⟩ ?_
  rintro W ⟨T2, O2, F2, B2⟩
  clear HB TR OE HO2 hse hr0 hr1 fr0 fr1 lr he0 he1 fe0 fe1 le
  have HB := B2
  obtain ⟨a1, a2⟩ := T2.out.again
  have a3 := O2.out.again
  obtain ⟨x0, x1, y0, y1, z0⟩ := T2.out.all
  obtain ⟨x2, _, y2, _, z2⟩ := O2.out.all
  go_region
  all_goals
    go_wp2
    exact zs_end (.inl rfl) T2.out O2.out rfl rfl ⟨⟨_, rfl, F2.out⟩, (by repeat (with_reducible first | exact HB.out | exact Below.refl _ _ | apply bA | apply bD | apply bN | refine bS ?_ (by first | assumption | (simp only []; omega) | omega)))⟩
set_option maxHeartbeats 8000000 in
set_option maxRecDepth 100000 in
theorem zstore_long (w : World) (v pv : Value) (fs : List Fr) (slot frame : Int) (l : List UInt8) (hv : FrsV w v fs) (hf : Valid fs) (hp : ByV w pv l) (hl : l.length = 32) (s1 : 0 ≤ slot) (s2 : slot < 64)
    (hk24 : 24 < (packF l).length) :
    Calls Try.prog 16 #[.agg #[.int .i64 4, v], .int .i64 slot, pv, .int .i64 frame] w fun e w' => (∃ r : Int, e = .returned (.tuple #[.agg #[.int .i64 0, .slice none 0 0], .int .i64 r]) ∧ (r == 0) = false) ∧ Below w.heap.size w w' := by
  obtain ⟨A, c, rfl, hc, hm⟩ := hv.form
  obtain ⟨Ap, cp, rfl, _, _⟩ := hp.form
  have HB := Lib.hid (Below.refl w.heap.size w)
  have FV := Lib.hid hv
  have PV := Lib.hid hp
  have hn4 := hf.1
  obtain ⟨n, hn'⟩ : ∃ n, n = fs.length := ⟨_, rfl⟩
  rw [← hn'] at hv hc FV hn4 ⊢
  rw [hl] at PV ⊢
  obtain ⟨k, hk'⟩ : ∃ k, k = (packF l).length := ⟨_, rfl⟩
  rw [← hk'] at hk24
  have hk1 : 1 ≤ k := by rw [hk']; exact packF_pos l
  have HN := Lib.hid hn'
  have HK := Lib.hid hk'
  have HF := Lib.hid hf
  have HL := Lib.hid hl
  have ne : w.heap.size + 1 ≠ w.heap.size + 1 + 1 := by omega
  have d24 : decide ((24 : Int) < k) = true := decide_eq_true (by omega)
  clear hn' hf hv hp hl hk'
  go_enter_defers Try.func16, Try.ntmps16
  go_wp2_with fail
  ((go_at_call 30); (with_reducible refine (encode_any _ _ _ fs l (FV.out.keep (by repeat (with_reducible first | exact Below.refl _ _ | apply bA | apply bD | apply bN))) HF.out (PV.out.keep (by repeat (with_reducible first | exact Below.refl _ _ | apply bA | apply bD | apply bN))) HL.out).mono ?_); rintro e w1 ⟨⟨v', rfl, ho⟩, hb1⟩; (have HB1 := Lib.hid (bT (w := w) ((by repeat (with_reducible first | exact HB.out | exact Below.refl _ _ | apply bA | apply bD | apply bN | refine bS ?_ (by first | assumption | (simp only []; omega) | omega)))) hb1)); clear HB; (have HB := HB1); clear HB1; (have hbb := HB.out); (have N_ := Lib.hid (FV.out.keep hbb)); clear FV; (have FV := N_); clear N_; (have N_ := Lib.hid (PV.out.keep hbb)); clear PV; (have PV := N_); clear N_; (have TX := Lib.hid (Two.keep (B := w.heap.size) (u := .int .i64 4) (v := .slice A n c) (by simp only [Two, ITwo, heap_drew, heap_drewN, heap_alloc_eq, size_alloc', size_drew, size_drewN, ↓reduceIte]; repeat (first | rw [if_pos (by omega)] | rw [if_neg (by omega)])) hb1)); (have TR := Lib.hid (Two.keep (B := w.heap.size + 1) (u := .int .i64 0) (v := .slice none 0 0) (by simp only [Two, ITwo, heap_drew, heap_drewN, heap_alloc_eq, size_alloc', size_drew, size_drewN, ↓reduceIte]; repeat (first | rw [if_pos (by omega)] | rw [if_neg (by omega)])) hb1)); (have OE := Lib.hid (One.keep (B := w.heap.size + 1 + 1) (v := .int .i64 0) (t := 3) (by simp only [One, Two, heap_drew, heap_drewN, heap_alloc_eq, size_alloc', size_drew, size_drewN, ↓reduceIte]; repeat (first | rw [if_pos (by omega)] | rw [if_neg (by omega)])) hb1)); (obtain ⟨A', c', rfl, _, _⟩ := ho.form); (rw [← HK.out] at ho ⊢); (have HO := Lib.hid ho); clear ho; clear hb1 hbb; (obtain ⟨wl, rfl⟩ : ∃ wl : World, wl = w1 := ⟨_, rfl⟩); (try clear hx0 hx1 fx0 fx1 lx); (obtain ⟨hx0, hx1, fx0, fx1, lx⟩ := TX.out.all); (try clear hr0 hr1 fr0 fr1 lr); (obtain ⟨hr0, hr1, fr0, fr1, lr⟩ := TR.out.all); (try clear he0 he1 fe0 fe1 le); (obtain ⟨he0, he1, fe0, fe1, le⟩ := OE.out.all); (have hse := OE.out.again))
  go_wp2
  exact zs_end (.inr ⟨by decide, rfl, rfl⟩) (TR.out.set2.far ne) ((OE.out.far ne.symm).far ne.symm).set_ rfl rfl ⟨⟨_, rfl, by decide⟩, (by repeat (with_reducible first | exact HB.out | exact Below.refl _ _ | apply bA | apply bD | apply bN | refine bS ?_ (by first | assumption | (simp only []; omega) | omega)))⟩
set_option maxHeartbeats 8000000 in
set_option maxRecDepth 100000 in
theorem zstore_none (w : World) (v pv : Value) (fs : List Fr) (slot frame : Int) (l : List UInt8) (hv : FrsV w v fs) (hf : Valid fs) (hp : ByV w pv l) (hl : l.length = 32) (s1 : 0 ≤ slot) (s2 : slot < 64)
    (hk24 : (packF l).length ≤ 24) (hs : storeF fs slot (packF l) frame = none) :
    Calls Try.prog 16 #[.agg #[.int .i64 4, v], .int .i64 slot, pv, .int .i64 frame] w fun e w' => (∃ r : Int, e = .returned (.tuple #[.agg #[.int .i64 0, .slice none 0 0], .int .i64 r]) ∧ (r == 0) = false) ∧ Below w.heap.size w w' := by
  obtain ⟨A, c, rfl, hc, hm⟩ := hv.form
  obtain ⟨Ap, cp, rfl, _, _⟩ := hp.form
  have HB := Lib.hid (Below.refl w.heap.size w)
  have FV := Lib.hid hv
  have PV := Lib.hid hp
  have hn4 := hf.1
  obtain ⟨n, hn'⟩ : ∃ n, n = fs.length := ⟨_, rfl⟩
  rw [← hn'] at hv hc FV hn4 ⊢
  rw [hl] at PV ⊢
  obtain ⟨k, hk'⟩ : ∃ k, k = (packF l).length := ⟨_, rfl⟩
  rw [← hk'] at hk24
  have hk1 : 1 ≤ k := by rw [hk']; exact packF_pos l
  have HN := Lib.hid hn'
  have HK := Lib.hid hk'
  have HF := Lib.hid hf
  have HL := Lib.hid hl
  have HS := Lib.hid hs
  have ne : w.heap.size + 1 ≠ w.heap.size + 1 + 1 := by omega
  have d24 : decide ((24 : Int) < k) = false := decide_eq_false (by omega)
  clear hn' hf hv hp hl hk' hs
  go_enter_defers Try.func16, Try.ntmps16
  go_wp2_with fail
  ((go_at_call 30); (with_reducible refine (encode_any _ _ _ fs l (FV.out.keep (by repeat (with_reducible first | exact Below.refl _ _ | apply bA | apply bD | apply bN))) HF.out (PV.out.keep (by repeat (with_reducible first | exact Below.refl _ _ | apply bA | apply bD | apply bN))) HL.out).mono ?_); rintro e w1 ⟨⟨v', rfl, ho⟩, hb1⟩; (have HB1 := Lib.hid (bT (w := w) ((by repeat (with_reducible first | exact HB.out | exact Below.refl _ _ | apply bA | apply bD | apply bN | refine bS ?_ (by first | assumption | (simp only []; omega) | omega)))) hb1)); clear HB; (have HB := HB1); clear HB1; (have hbb := HB.out); (have N_ := Lib.hid (FV.out.keep hbb)); clear FV; (have FV := N_); clear N_; (have N_ := Lib.hid (PV.out.keep hbb)); clear PV; (have PV := N_); clear N_; (have TX := Lib.hid (Two.keep (B := w.heap.size) (u := .int .i64 4) (v := .slice A n c) (by simp only [Two, ITwo, heap_drew, heap_drewN, heap_alloc_eq, size_alloc', size_drew, size_drewN, ↓reduceIte]; repeat (first | rw [if_pos (by omega)] | rw [if_neg (by omega)])) hb1)); (have TR := Lib.hid (Two.keep (B := w.heap.size + 1) (u := .int .i64 0) (v := .slice none 0 0) (by simp only [Two, ITwo, heap_drew, heap_drewN, heap_alloc_eq, size_alloc', size_drew, size_drewN, ↓reduceIte]; repeat (first | rw [if_pos (by omega)] | rw [if_neg (by omega)])) hb1)); (have OE := Lib.hid (One.keep (B := w.heap.size + 1 + 1) (v := .int .i64 0) (t := 3) (by simp only [One, Two, heap_drew, heap_drewN, heap_alloc_eq, size_alloc', size_drew, size_drewN, ↓reduceIte]; repeat (first | rw [if_pos (by omega)] | rw [if_neg (by omega)])) hb1)); (obtain ⟨A', c', rfl, _, _⟩ := ho.form); (rw [← HK.out] at ho ⊢); (have HO := Lib.hid ho); clear ho; clear hb1 hbb; (obtain ⟨wl, rfl⟩ : ∃ wl : World, wl = w1 := ⟨_, rfl⟩); (try clear hx0 hx1 fx0 fx1 lx); (obtain ⟨hx0, hx1, fx0, fx1, lx⟩ := TX.out.all); (try clear hr0 hr1 fr0 fr1 lr); (obtain ⟨hr0, hr1, fr0, fr1, lr⟩ := TR.out.all); (try clear he0 he1 fe0 fe1 le); (obtain ⟨he0, he1, fe0, fe1, le⟩ := OE.out.all); (have hse := OE.out.again))
  go_wp2_with fail
  ((go_at_call 33); (with_reducible refine (pstore_no _ _ _ fs slot frame (packF l) (FV.out.keep (by repeat (with_reducible first | exact Below.refl _ _ | apply bA | apply bD | apply bN))) HF.out (HO.out.keep (by repeat (with_reducible first | exact Below.refl _ _ | apply bA | apply bD | apply bN))) s1 s2 (by rw [← HK.out]; exact hk1) (by rw [← HK.out]; omega) HS.out).mono ?_); rintro e w1 ⟨⟨r2, rfl, hr2⟩, hb1⟩; (have HB1 := Lib.hid (bT (w := w) ((by repeat (with_reducible first | exact HB.out | exact Below.refl _ _ | apply bA | apply bD | apply bN | refine bS ?_ (by first | assumption | (simp only []; omega) | omega)))) hb1)); clear HB; (have HB := HB1); clear HB1; (have hbb := bT (w := wl) (by repeat (with_reducible first | exact Below.refl _ _ | apply bA | apply bD | apply bN)) hb1); (have N_ := Lib.hid (TR.out.keep hbb)); clear TR; (have TR := N_); clear N_; (have N_ := Lib.hid (OE.out.keep hbb)); clear OE; (have OE := N_); clear N_; (have HR2 := Lib.hid hr2); clear hr2; clear hb1 hbb; (obtain ⟨wl, rfl⟩ : ∃ wl : World, wl = w1 := ⟨_, rfl⟩); (try clear hr0 hr1 fr0 fr1 lr); (obtain ⟨hr0, hr1, fr0, fr1, lr⟩ := TR.out.all); (try clear he0 he1 fe0 fe1 le); (obtain ⟨he0, he1, fe0, fe1, le⟩ := OE.out.all); (have hse := OE.out.again))
  go_upto_region 8 with (fail)
  refine wp_gen (fun W => Hid (Two W (w.heap.size + 1) (.int .i64 0) (.slice none 0 0)) ∧ Hid (One W (w.heap.size + 1 + 1) 3 (.int .i64 r2)) ∧ Hid (Below w.heap.size w W)) ⟨Lib.hid (TR.out.set2.far ne), Lib.hid ((OE.out.far ne.symm).far ne.symm).set_, Lib.hid (by repeat (with_reducible first | exact HB.out | exact Below.refl _ _ | apply bA | apply bD | apply bN | refine bS ?_ (by first | assumption | (simp only []; omega) | omega)))⟩ ?_
  rintro W ⟨T2, O2, B2⟩
  clear HB TR OE hse hr0 hr1 fr0 fr1 lr he0 he1 fe0 fe1 le
  have HB := B2
  obtain ⟨a1, a2⟩ := T2.out.again
  have a3 := O2.out.again
  obtain ⟨x0, x1, y0, y1, z0⟩ := T2.out.all
  obtain ⟨x2, _, y2, _, z2⟩ := O2.out.all
  go_region
  all_goals
    go_wp2
    exact zs_end (.inr ⟨HR2.out, rfl, rfl⟩) T2.out O2.out rfl rfl ⟨⟨_, rfl, by have := HR2.out; simpa using this⟩, (by repeat (with_reducible first | exact HB.out | exact Below.refl _ _ | apply bA | apply bD | apply bN | refine bS ?_ (by first | assumption | (simp only []; omega) | omega)))⟩
end Go.Proofs.Ytfdmmbalfjcehaa
