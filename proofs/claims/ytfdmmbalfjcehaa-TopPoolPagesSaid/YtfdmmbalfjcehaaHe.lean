/- Contract of zswap.Load over a valid pool. -/
import Derived.Test.YtfdmmbalfjcehaaHd
import Derived.Test.YtfdmmbalfjcehaaDc
namespace Go.Proofs.Ytfdmmbalfjcehaa
open Go.RowKit
set_option linter.unusedVariables false
set_option linter.unusedSimpArgs false
attribute [local go_sem] lt_more lt_more2 lt_more3 lt_more4 lt_more5 lt_more6 lt_more7 lt_more8 idx0 idx1

/-- Bytes that are read lie in no block that holds none. -/
theorem ByR.farC {w : World} {v : Value} {l : List UInt8} (h : ByR w v l) {g t : Nat} {cs : Array Value} (hg : w.heap[g]? = some (.cells cs t (0, 0))) (hx : ∀ (j : Nat) (u : UInt8), cs[j]? ≠ some (bc u)) {o : Nat} {x : Value} : ByR (w.setCell ⟨g, o, none⟩ x) v l := by
  obtain ⟨A, c, hv, h1, h2, hn, hs⟩ := h
  refine ⟨A, c, hv, h1, h2, hn, fun a ha => ?_⟩
  obtain ⟨g', o', hg', hl, hc⟩ := hs a ha
  refine ⟨g', o', hg', Nat.lt_of_lt_of_le hl (by simp), fun j u hu => ?_⟩
  have h3 := hc j u hu
  have hne : g' ≠ g := by
    rintro rfl
    rw [cell_of_row w g' (o' + j) _ t (0, 0) hg] at h3
    exact hx _ _ h3
  exact (World.cell?_of_block (w := w) (a := ⟨g', o' + j, none⟩) (Below.heap_setCell w _ _ _ hne)).trans h3
theorem noB1 {x : Value} (h : ∀ u, x ≠ bc u) (j : Nat) (u : UInt8) : (#[x] : Array Value)[j]? ≠ some (bc u) := by
  cases j with
  | zero => simpa using h u
  | succ j => simp
theorem noB2 {x y : Value} (h : ∀ u, x ≠ bc u) (h2 : ∀ u, y ≠ bc u) (j : Nat) (u : UInt8) : (#[x, y] : Array Value)[j]? ≠ some (bc u) := by
  match j with
  | 0 => simpa using h u
  | 1 => simpa using h2 u
  | j + 2 => simp
theorem noI {n : Int} (u : UInt8) : Value.int .i64 n ≠ bc u := by unfold bc; intro h; injection h with h; cases h
theorem noS {A : Option Addr} {n c : Nat} (u : UInt8) : Value.slice A n c ≠ bc u := by unfold bc; intro h; cases h

theorem zl_defer0 (w : World) (e a b c : Nat) (u : FrameMode) (he : One w e 3 (.int .i64 0)) :
    CallsD Try.prog 24 #[.pointer (some ⟨e, 0, none⟩), .pointer (some ⟨a, 0, none⟩), .pointer (some ⟨b, 0, none⟩), .pointer (some ⟨c, 0, none⟩)] u w fun r u' w' => u' = u ∧ (r = .returned (.tuple #[]) ∧ w = w') := by
  have c := he.cell
  clear he
  go_enter_d Try.func24, Try.ntmps24
  go_wp2
  go_end0
  exact ⟨rfl, rfl⟩
theorem zl_defer1 (w : World) (e a b c : Nat) (u : FrameMode) (r : Int) (hr : (r != 0) = true) (he : One w e 3 (.int .i64 r)) (ha : Two w a (.int .i64 0) (.slice none 0 0)) (hb : One w b 27 (.slice none 0 0)) (hc : One w c 3 (.int .i64 0)) :
    CallsD Try.prog 24 #[.pointer (some ⟨e, 0, none⟩), .pointer (some ⟨a, 0, none⟩), .pointer (some ⟨b, 0, none⟩), .pointer (some ⟨c, 0, none⟩)] u w fun r u' w' => u' = u ∧ (r = .returned (.tuple #[]) ∧ w = w') := by
  have c0 := he.cell
  obtain ⟨a1, a2⟩ := ha.again
  obtain ⟨c1, c2, f1, f2, l⟩ := ha.all
  have a3 := hb.again
  obtain ⟨c3, _, f3, _, l3⟩ := hb.all
  have a4 := hc.again
  obtain ⟨c4, _, f4, _, l4⟩ := hc.all
  clear he ha hb hc
  go_enter_d Try.func24, Try.ntmps24
  go_wp2
  go_end0
  exact ⟨rfl, rfl⟩
theorem zl_end {W : World} {tmps : Array Value} {R : Ending → World → Prop} {e a b c : Nat} {r : Int} {x y p q : Value} (hr : r = 0 ∨ ((r != 0) = true ∧ x = .int .i64 0 ∧ y = .slice none 0 0 ∧ p = .slice none 0 0 ∧ q = .int .i64 0)) (Oa : Two W a x y) (Ob : One W b 27 p) (Oc : One W c 3 q) (Oe : One W e 3 (.int .i64 r))
    (h4 : tmps.getD 4 undef = .pointer (some ⟨a, 0, none⟩)) (h5 : tmps.getD 5 undef = .pointer (some ⟨b, 0, none⟩)) (h6 : tmps.getD 6 undef = .pointer (some ⟨c, 0, none⟩)) (h7 : tmps.getD 7 undef = .pointer (some ⟨e, 0, none⟩)) (hR : R (.returned (.tuple #[.agg #[x, y], p, q, .int .i64 r])) W) :
    Leaves Try.prog Try.f13 tmps R [{ target := .fn (.func 24) #[.pointer (some ⟨e, 0, none⟩), .pointer (some ⟨a, 0, none⟩), .pointer (some ⟨b, 0, none⟩), .pointer (some ⟨c, 0, none⟩)], args := #[] }] .returning W := by
  refine leaves_cons (f := 24) (args := #[.pointer (some ⟨e, 0, none⟩), .pointer (some ⟨a, 0, none⟩), .pointer (some ⟨b, 0, none⟩), .pointer (some ⟨c, 0, none⟩)]) (by simp) (by simp [go_sem]) ?_
  have key : CallsD Try.prog 24 #[.pointer (some ⟨e, 0, none⟩), .pointer (some ⟨a, 0, none⟩), .pointer (some ⟨b, 0, none⟩), .pointer (some ⟨c, 0, none⟩)] .returning W fun r u' w' => u' = .returning ∧ (r = .returned (.tuple #[]) ∧ W = w') := by
    rcases hr with rfl | ⟨hr, rfl, rfl, rfl, rfl⟩
    · exact zl_defer0 W e _ _ _ _ Oe
    · exact zl_defer1 W e _ _ _ _ r hr Oe Oa Ob Oc
  refine key.mono ?_
  rintro r u' w'' ⟨rfl, rfl, rfl⟩
  refine ⟨_, ?_, hR⟩
  obtain ⟨c1, c2, _⟩ := Oa.all
  have c3 := Oe.cell
  have c4 := Ob.cell
  have c5 := Oc.cell
  simp only [Array.getD_eq_getD_getElem?] at h4 h5 h6 h7
  simp [results, Try.results13, go_sem, h4, h5, h6, h7, c1, c2, c3, c4, c5]

set_option maxHeartbeats 8000000 in
set_option maxRecDepth 100000 in
theorem zload_some (w : World) (v : Value) (fs : List Fr) (s : Int) (hv : FrsV w v fs) (hf : Valid fs) (i : Nat) (f : Fr) (j : Int) (hi : fs[i]? = some f) (hj : j = 0 ∨ j = 1) (hn : findFrom fs 0 s = ((i : Int), j)) (p : List UInt8) (he : Enc (itAt f j).data p) :
    Calls Try.prog 13 #[.agg #[.int .i64 4, v], .int .i64 s] w fun e w' => (∃ (v' pv : Value) (r : Int), e = .returned (.tuple #[.agg #[.int .i64 4, v'], pv, .int .i64 r, .int .i64 0]) ∧ FrsV w' v' (dropF fs i f j) ∧ ByR w' pv p) ∧ Below w.heap.size w w' := by
  obtain ⟨A, c, rfl, hc, hm⟩ := hv.form
  have HB := Lib.hid (Below.refl w.heap.size w)
  have FV := Lib.hid hv
  have hn4 := hf.1
  obtain ⟨n, hn'⟩ : ∃ n, n = fs.length := ⟨_, rfl⟩
  rw [← hn'] at hv hc FV hn4 ⊢
  have HN := Lib.hid hn'
  have HF := Lib.hid hf
  have HI := Lib.hid hi
  have HJ := Lib.hid hj
  have HS := Lib.hid hn
  have HE := Lib.hid he
  have n1 : w.heap.size + 1 ≠ w.heap.size + 1 + 1 + 1 + 1 := by omega
  have n2 : w.heap.size + 1 + 1 ≠ w.heap.size + 1 + 1 + 1 + 1 := by omega
  have n3 : w.heap.size + 1 + 1 + 1 ≠ w.heap.size + 1 + 1 + 1 + 1 := by omega
  have n4 : w.heap.size + 1 ≠ w.heap.size + 1 + 1 := by omega
  have n5 : w.heap.size + 1 ≠ w.heap.size + 1 + 1 + 1 := by omega
  have n6 : w.heap.size + 1 + 1 ≠ w.heap.size + 1 + 1 + 1 := by omega
  have m1 : w.heap.size ≠ w.heap.size + 1 + 1 := by omega
  have m2 : w.heap.size ≠ w.heap.size + 1 + 1 + 1 + 1 := by omega
  clear hn' hf hv hi hj hn he
  go_enter_defers Try.func13, Try.ntmps13
  go_wp2_with fail
  ((go_at_call 25); (with_reducible refine (load_some _ _ fs s (FV.out.keep (by repeat (with_reducible first | exact Below.refl _ _ | apply bA | apply bD | apply bN))) HF.out i j f HI.out HJ.out HS.out).mono ?_); rintro e w1 ⟨⟨v', rfl, ho⟩, hb1⟩; (have HB1 := Lib.hid (bT (w := w) ((by repeat (with_reducible first | exact HB.out | exact Below.refl _ _ | apply bA | apply bD | apply bN | refine bS ?_ (by first | assumption | (simp only []; omega) | omega)))) hb1)); clear HB; (have HB := HB1); clear HB1; (have hbb := HB.out); (have N_ := Lib.hid (FV.out.keep hbb)); clear FV; (have FV := N_); clear N_; (have TX := Lib.hid (Two.keep (B := w.heap.size) (u := .int .i64 4) (v := .slice A n c) (by simp only [Two, ITwo, heap_drew, heap_drewN, heap_alloc_eq, size_alloc', size_drew, size_drewN, ↓reduceIte]; repeat (first | rw [if_pos (by omega)] | rw [if_neg (by omega)])) hb1)); (have TR := Lib.hid (Two.keep (B := w.heap.size + 1) (u := .int .i64 0) (v := .slice none 0 0) (by simp only [Two, ITwo, heap_drew, heap_drewN, heap_alloc_eq, size_alloc', size_drew, size_drewN, ↓reduceIte]; repeat (first | rw [if_pos (by omega)] | rw [if_neg (by omega)])) hb1)); (have OP := Lib.hid (One.keep (B := w.heap.size + 1 + 1) (v := .slice none 0 0) (t := 27) (by simp only [One, Two, heap_drew, heap_drewN, heap_alloc_eq, size_alloc', size_drew, size_drewN, ↓reduceIte]; repeat (first | rw [if_pos (by omega)] | rw [if_neg (by omega)])) hb1)); (have OF := Lib.hid (One.keep (B := w.heap.size + 1 + 1 + 1) (v := .int .i64 0) (t := 3) (by simp only [One, Two, heap_drew, heap_drewN, heap_alloc_eq, size_alloc', size_drew, size_drewN, ↓reduceIte]; repeat (first | rw [if_pos (by omega)] | rw [if_neg (by omega)])) hb1)); (have OE := Lib.hid (One.keep (B := w.heap.size + 1 + 1 + 1 + 1) (v := .int .i64 0) (t := 3) (by simp only [One, Two, heap_drew, heap_drewN, heap_alloc_eq, size_alloc', size_drew, size_drewN, ↓reduceIte]; repeat (first | rw [if_pos (by omega)] | rw [if_neg (by omega)])) hb1)); (obtain ⟨A', c', rfl, _, _⟩ := ho.toV.form); (have HO := Lib.hid ho.toV); clear ho; clear hb1 hbb; (obtain ⟨wl, rfl⟩ : ∃ wl : World, wl = w1 := ⟨_, rfl⟩); (try clear hx0 hx1 fx0 fx1 lx); (obtain ⟨hx0, hx1, fx0, fx1, lx⟩ := TX.out.all); (try clear hr0 hr1 fr0 fr1 lr); (obtain ⟨hr0, hr1, fr0, fr1, lr⟩ := TR.out.all); (try clear hp0 hp1 fp0 fp1 lp); (obtain ⟨hp0, hp1, fp0, fp1, lp⟩ := OP.out.all); (try clear hf0 hf1 ff0 ff1 lf); (obtain ⟨hf0, hf1, ff0, ff1, lf⟩ := OF.out.all); (try clear he0 he1 fe0 fe1 le); (obtain ⟨he0, he1, fe0, fe1, le⟩ := OE.out.all); (have hse := OE.out.again))
  go_wp2_with fail
  ((go_at_call 26); (with_reducible refine (unpack_any _ _ _ p (HO.out.keep (by repeat (with_reducible first | exact Below.refl _ _ | apply bA | apply bD | apply bN))) HE.out).mono ?_); rintro e w1 ⟨⟨v2, rfl, ho2⟩, hb1⟩; (have HB1 := Lib.hid (bT (w := w) ((by repeat (with_reducible first | exact HB.out | exact Below.refl _ _ | apply bA | apply bD | apply bN | refine bS ?_ (by first | assumption | (simp only []; omega) | omega)))) hb1)); clear HB; (have HB := HB1); clear HB1; (have hbb := bT (w := wl) (by repeat (with_reducible first | exact Below.refl _ _ | apply bA | apply bD | apply bN)) hb1); (have N_ := Lib.hid (TX.out.keep hbb)); clear TX; (have TX := N_); clear N_; (have N_ := Lib.hid (TR.out.keep hbb)); clear TR; (have TR := N_); clear N_; (have N_ := Lib.hid (OP.out.keep hbb)); clear OP; (have OP := N_); clear N_; (have N_ := Lib.hid (OF.out.keep hbb)); clear OF; (have OF := N_); clear N_; (have N_ := Lib.hid (OE.out.keep hbb)); clear OE; (have OE := N_); clear N_; (have N_ := Lib.hid (FV.out.keep hbb)); clear FV; (have FV := N_); clear N_; (obtain ⟨A2, c2, rfl⟩ := byR32 ho2 HE.out.len); (have HO2 := Lib.hid ho2); clear ho2; clear hb1 hbb; (obtain ⟨wl, rfl⟩ : ∃ wl : World, wl = w1 := ⟨_, rfl⟩); (try clear hx0 hx1 fx0 fx1 lx); (obtain ⟨hx0, hx1, fx0, fx1, lx⟩ := TX.out.all); (try clear hr0 hr1 fr0 fr1 lr); (obtain ⟨hr0, hr1, fr0, fr1, lr⟩ := TR.out.all); (try clear hp0 hp1 fp0 fp1 lp); (obtain ⟨hp0, hp1, fp0, fp1, lp⟩ := OP.out.all); (try clear hf0 hf1 ff0 ff1 lf); (obtain ⟨hf0, hf1, ff0, ff1, lf⟩ := OF.out.all); (try clear he0 he1 fe0 fe1 le); (obtain ⟨he0, he1, fe0, fe1, le⟩ := OE.out.all); clear hse)
  go_upto_region 6 with (fail)
  obtain ⟨w0, rfl⟩ : ∃ w0 : World, w0 = wl := ⟨_, rfl⟩
  refine wp_gen (fun W => Hid (Two W w.heap.size (.int .i64 4) (.slice A n c)) ∧ Hid (Two W (w.heap.size + 1) (.int .i64 0) (.slice none 0 0)) ∧ Hid (One W (w.heap.size + 1 + 1) 27 (.slice A2 32 c2)) ∧ Hid (One W (w.heap.size + 1 + 1 + 1) 3 (.int .i64 0)) ∧ Hid (One W (w.heap.size + 1 + 1 + 1 + 1) 3 (.int .i64 0)) ∧ Hid (FrsV W (.slice A n c) fs) ∧ Hid (ByR W (.slice A2 32 c2) p) ∧ Hid (Below w.heap.size w W))
    ⟨Lib.hid ((TX.out.far m1).far m2), Lib.hid ((TR.out.far n4).far n1), Lib.hid (OP.out.set_.far n2), Lib.hid ((OF.out.far n6.symm).far n3), Lib.hid (OE.out.far n2.symm).set_, Lib.hid ((FV.out.farT OP.out (by decide) (by decide)).farT (OE.out.far (p := ⟨w.heap.size + 1 + 1, 0, none⟩) n2.symm) (by decide) (by decide)),
     Lib.hid ((HO2.out.farC OP.out (noB1 noS)).farC (OE.out.far (p := ⟨w.heap.size + 1 + 1, 0, none⟩) n2.symm) (noB1 noI)), Lib.hid (by repeat (with_reducible first | exact HB.out | exact Below.refl _ _ | apply bA | apply bD | apply bN | refine bS ?_ (by first | assumption | (simp only []; omega) | omega)))⟩ ?_
  clear HB TX TR OP OF OE FV HO2 hx0 hx1 fx0 fx1 lx hr0 hr1 fr0 fr1 lr hp0 hp1 fp0 fp1 lp hf0 hf1 ff0 ff1 lf he0 he1 fe0 fe1 le
  rintro wl ⟨TX, TR, OP, OF, OE, FV, HO2, HB⟩
  obtain ⟨hx0, hx1, fx0, fx1, lx⟩ := TX.out.all
  obtain ⟨he0, he1, fe0, fe1, le⟩ := OE.out.all
  go_wp2_with fail
  ((go_at_call 27); (with_reducible refine (pdrop_any _ _ fs s (FV.out.keep (by repeat (with_reducible first | exact Below.refl _ _ | apply bA | apply bD | apply bN))) HF.out i f j HI.out HJ.out HS.out).mono ?_); rintro e w1 ⟨⟨v3, r3, rfl, ho3⟩, hb1⟩; (have HB1 := Lib.hid (bT (w := w) ((by repeat (with_reducible first | exact HB.out | exact Below.refl _ _ | apply bA | apply bD | apply bN | refine bS ?_ (by first | assumption | (simp only []; omega) | omega)))) hb1)); clear HB; (have HB := HB1); clear HB1; (have hbb := bT (w := wl) (by repeat (with_reducible first | exact Below.refl _ _ | apply bA | apply bD | apply bN)) hb1); (have N_ := Lib.hid (TR.out.keep hbb)); clear TR; (have TR := N_); clear N_; (have N_ := Lib.hid (OP.out.keep hbb)); clear OP; (have OP := N_); clear N_; (have N_ := Lib.hid (OF.out.keep hbb)); clear OF; (have OF := N_); clear N_; (have N_ := Lib.hid (OE.out.keep hbb)); clear OE; (have OE := N_); clear N_; (have N_ := Lib.hid (HO2.out.keep hbb)); clear HO2; (have HO2 := N_); clear N_; (obtain ⟨A3, c3, rfl, _, _⟩ := ho3.form); (have HO3 := Lib.hid ho3); clear ho3; clear hb1 hbb; (obtain ⟨wl, rfl⟩ : ∃ wl : World, wl = w1 := ⟨_, rfl⟩); (try clear hr0 hr1 fr0 fr1 lr); (obtain ⟨hr0, hr1, fr0, fr1, lr⟩ := TR.out.all); (try clear hp0 hp1 fp0 fp1 lp); (obtain ⟨hp0, hp1, fp0, fp1, lp⟩ := OP.out.all); (try clear hf0 hf1 ff0 ff1 lf); (obtain ⟨hf0, hf1, ff0, ff1, lf⟩ := OF.out.all); (try clear he0 he1 fe0 fe1 le); (obtain ⟨he0, he1, fe0, fe1, le⟩ := OE.out.all); skip)
  go_upto_region 9 with (fail)
  obtain ⟨w1, rfl⟩ : ∃ w1 : World, w1 = wl := ⟨_, rfl⟩
  have TR2 := Lib.hid (TR.out.set2 (u' := .int .i64 4) (v' := .slice A3 (dropF fs i f j).length c3))
  have OP2 := Lib.hid ((OP.out.far (p := ⟨w.heap.size + 1, 0, none⟩) (x := .int .i64 4) n4.symm).far (p := ⟨w.heap.size + 1, 1, none⟩) (x := .slice A3 (dropF fs i f j).length c3) n4.symm)
  have OF2 := Lib.hid ((OF.out.far (p := ⟨w.heap.size + 1, 0, none⟩) (x := .int .i64 4) n5.symm).far (p := ⟨w.heap.size + 1, 1, none⟩) (x := .slice A3 (dropF fs i f j).length c3) n5.symm)
  have OE2 := Lib.hid ((OE.out.far (p := ⟨w.heap.size + 1, 0, none⟩) (x := .int .i64 4) n1.symm).far (p := ⟨w.heap.size + 1, 1, none⟩) (x := .slice A3 (dropF fs i f j).length c3) n1.symm)
  refine wp_gen (fun W => Hid (Two W (w.heap.size + 1) (.int .i64 4) (.slice A3 (dropF fs i f j).length c3)) ∧ Hid (One W (w.heap.size + 1 + 1) 27 (.slice A2 32 c2)) ∧ Hid (One W (w.heap.size + 1 + 1 + 1) 3 (.int .i64 r3)) ∧ Hid (One W (w.heap.size + 1 + 1 + 1 + 1) 3 (.int .i64 0)) ∧ Hid (FrsV W (.slice A3 (dropF fs i f j).length c3) (dropF fs i f j)) ∧ Hid (ByR W (.slice A2 32 c2) p) ∧ Hid (Below w.heap.size w W))
    ⟨Lib.hid ((TR2.out.far n5).far n1), Lib.hid ((OP2.out.far n6).far n2), Lib.hid (OF2.out.set_.far n3), Lib.hid (OE2.out.far n3.symm).set_, Lib.hid (((HO3.out.two TR.out).farT OF2.out (by decide) (by decide)).farT (OE2.out.far (p := ⟨w.heap.size + 1 + 1 + 1, 0, none⟩) n3.symm) (by decide) (by decide)),
     Lib.hid ((((HO2.out.farC TR.out (noB2 noI noS)).farC TR.out.set0 (noB2 noI noS)).farC OF2.out (noB1 noI)).farC (OE2.out.far (p := ⟨w.heap.size + 1 + 1 + 1, 0, none⟩) n3.symm) (noB1 noI)), Lib.hid (by repeat (with_reducible first | exact HB.out | exact Below.refl _ _ | apply bA | apply bD | apply bN | refine bS ?_ (by first | assumption | (simp only []; omega) | omega)))⟩ ?_
  clear HB TR OP OF OE HO2 HO3 TR2 OP2 OF2 OE2 hr0 hr1 fr0 fr1 lr hp0 hp1 fp0 fp1 lp hf0 hf1 ff0 ff1 lf he0 he1 fe0 fe1 le
  rintro W ⟨TR, OP, OF, OE, FV2, HO2, HB⟩
  obtain ⟨b1, b2⟩ := TR.out.again
  have b3 := OP.out.again
  have b4 := OF.out.again
  have b5 := OE.out.again
  obtain ⟨hr0, hr1, fr0, fr1, lr⟩ := TR.out.all
  obtain ⟨hp0, hp1, fp0, fp1, lp⟩ := OP.out.all
  obtain ⟨hf0, hf1, ff0, ff1, lf⟩ := OF.out.all
  obtain ⟨he0, he1, fe0, fe1, le⟩ := OE.out.all
  go_region
  all_goals
    go_wp2
    exact zl_end (.inl rfl) TR.out OP.out OF.out OE.out rfl rfl rfl rfl ⟨⟨_, _, _, rfl, FV2.out, HO2.out⟩, (by repeat (with_reducible first | exact HB.out | exact Below.refl _ _ | apply bA | apply bD | apply bN | refine bS ?_ (by first | assumption | (simp only []; omega) | omega)))⟩

set_option maxHeartbeats 8000000 in
set_option maxRecDepth 100000 in
theorem zload_none (w : World) (v : Value) (fs : List Fr) (s : Int) (hv : FrsV w v fs) (hf : Valid fs) (hn : findFrom fs 0 s = (-1, -1)) :
    Calls Try.prog 13 #[.agg #[.int .i64 4, v], .int .i64 s] w fun e w' => e = .returned (.tuple #[.agg #[.int .i64 0, .slice none 0 0], .slice none 0 0, .int .i64 0, .int .i64 6]) ∧ Below w.heap.size w w' := by
  obtain ⟨A, c, rfl, hc, hm⟩ := hv.form
  have HB := Lib.hid (Below.refl w.heap.size w)
  have FV := Lib.hid hv
  have hn4 := hf.1
  obtain ⟨n, hn'⟩ : ∃ n, n = fs.length := ⟨_, rfl⟩
  rw [← hn'] at hv hc FV hn4 ⊢
  have HN := Lib.hid hn'
  have HF := Lib.hid hf
  have HS := Lib.hid hn
  have n1 : w.heap.size + 1 ≠ w.heap.size + 1 + 1 + 1 + 1 := by omega
  have n2 : w.heap.size + 1 + 1 ≠ w.heap.size + 1 + 1 + 1 + 1 := by omega
  have n3 : w.heap.size + 1 + 1 + 1 ≠ w.heap.size + 1 + 1 + 1 + 1 := by omega
  clear hn' hf hv hn
  go_enter_defers Try.func13, Try.ntmps13
  go_wp2_with fail
  ((go_at_call 25); (with_reducible refine (load_none _ _ fs s (FV.out.keep (by repeat (with_reducible first | exact Below.refl _ _ | apply bA | apply bD | apply bN))) HF.out HS.out).mono ?_); rintro e w1 ⟨rfl, hb1⟩; (have HB1 := Lib.hid (bT (w := w) ((by repeat (with_reducible first | exact HB.out | exact Below.refl _ _ | apply bA | apply bD | apply bN | refine bS ?_ (by first | assumption | (simp only []; omega) | omega)))) hb1)); clear HB; (have HB := HB1); clear HB1; (have hbb := HB.out); skip; (have TR := Lib.hid (Two.keep (B := w.heap.size + 1) (u := .int .i64 0) (v := .slice none 0 0) (by simp only [Two, ITwo, heap_drew, heap_drewN, heap_alloc_eq, size_alloc', size_drew, size_drewN, ↓reduceIte]; repeat (first | rw [if_pos (by omega)] | rw [if_neg (by omega)])) hb1)); (have OP := Lib.hid (One.keep (B := w.heap.size + 1 + 1) (v := .slice none 0 0) (t := 27) (by simp only [One, Two, heap_drew, heap_drewN, heap_alloc_eq, size_alloc', size_drew, size_drewN, ↓reduceIte]; repeat (first | rw [if_pos (by omega)] | rw [if_neg (by omega)])) hb1)); (have OF := Lib.hid (One.keep (B := w.heap.size + 1 + 1 + 1) (v := .int .i64 0) (t := 3) (by simp only [One, Two, heap_drew, heap_drewN, heap_alloc_eq, size_alloc', size_drew, size_drewN, ↓reduceIte]; repeat (first | rw [if_pos (by omega)] | rw [if_neg (by omega)])) hb1)); (have OE := Lib.hid (One.keep (B := w.heap.size + 1 + 1 + 1 + 1) (v := .int .i64 0) (t := 3) (by simp only [One, Two, heap_drew, heap_drewN, heap_alloc_eq, size_alloc', size_drew, size_drewN, ↓reduceIte]; repeat (first | rw [if_pos (by omega)] | rw [if_neg (by omega)])) hb1)); clear hb1 hbb; (obtain ⟨wl, rfl⟩ : ∃ wl : World, wl = w1 := ⟨_, rfl⟩); (try clear hr0 hr1 fr0 fr1 lr); (obtain ⟨hr0, hr1, fr0, fr1, lr⟩ := TR.out.all); (try clear hp0 hp1 fp0 fp1 lp); (obtain ⟨hp0, hp1, fp0, fp1, lp⟩ := OP.out.all); (try clear hf0 hf1 ff0 ff1 lf); (obtain ⟨hf0, hf1, ff0, ff1, lf⟩ := OF.out.all); (try clear he0 he1 fe0 fe1 le); (obtain ⟨he0, he1, fe0, fe1, le⟩ := OE.out.all); skip)
  go_upto_region 3 with (fail)
  refine wp_gen (fun W => Hid (Two W (w.heap.size + 1) (.int .i64 0) (.slice none 0 0)) ∧ Hid (One W (w.heap.size + 1 + 1) 27 (.slice none 0 0)) ∧ Hid (One W (w.heap.size + 1 + 1 + 1) 3 (.int .i64 0)) ∧ Hid (One W (w.heap.size + 1 + 1 + 1 + 1) 3 (.int .i64 6)) ∧ Hid (Below w.heap.size w W))
    ⟨Lib.hid (TR.out.far n1), Lib.hid (OP.out.far n2), Lib.hid (OF.out.far n3), Lib.hid OE.out.set_, Lib.hid (by repeat (with_reducible first | exact HB.out | exact Below.refl _ _ | apply bA | apply bD | apply bN | refine bS ?_ (by first | assumption | (simp only []; omega) | omega)))⟩ ?_
  clear HB TR OP OF OE hr0 hr1 fr0 fr1 lr hp0 hp1 fp0 fp1 lp hf0 hf1 ff0 ff1 lf he0 he1 fe0 fe1 le
  rintro W ⟨TR, OP, OF, OE, HB⟩
  obtain ⟨b1, b2⟩ := TR.out.again
  have b3 := OP.out.again
  have b4 := OF.out.again
  have b5 := OE.out.again
  obtain ⟨hr0, hr1, fr0, fr1, lr⟩ := TR.out.all
  obtain ⟨hp0, hp1, fp0, fp1, lp⟩ := OP.out.all
  obtain ⟨hf0, hf1, ff0, ff1, lf⟩ := OF.out.all
  obtain ⟨he0, he1, fe0, fe1, le⟩ := OE.out.all
  go_wp2
  go_region
  all_goals
    go_wp2
    exact zl_end (.inr ⟨by decide, rfl, rfl, rfl, rfl⟩) TR.out OP.out OF.out OE.out rfl rfl rfl rfl ⟨rfl, (by repeat (with_reducible first | exact HB.out | exact Below.refl _ _ | apply bA | apply bD | apply bN | refine bS ?_ (by first | assumption | (simp only []; omega) | omega)))⟩
end Go.Proofs.Ytfdmmbalfjcehaa
