/- Contract of pool.clone. -/
import Derived.Test.YtfdmmbalfjcehaaPi
import Derived.Deep.RegionWith
import Derived.Deep.DeepCutAuto
namespace Go.Proofs.Ytfdmmbalfjcehaa
open Go.RowKit
set_option linter.unusedVariables false
set_option linter.unusedSimpArgs false
attribute [local go_sem] lt_more lt_more2 lt_more3 lt_more4 lt_more5 lt_more6 lt_more7 lt_more8 idx0 idx1

/-- A struct of two cells of type 26 (a pool), whole, in a world. -/
def Two (w : World) (B : Nat) (u v : Value) : Prop := w.heap[B]? = some (.cells #[u, v] 26 (0, 0))
theorem Two.lt {w : World} {B : Nat} {u v : Value} (h : Two w B u v) : B < w.heap.size := (Array.getElem?_eq_some_iff.1 h).1
theorem Two.keep {W w1 : World} {B : Nat} {u v : Value} (h : Two W B u v) (hb : Below W.heap.size W w1) : Two w1 B u v := (hb.block B h.lt).trans h
theorem Two.all {w : World} {B : Nat} {u v : Value} (h : Two w B u v) : w.cell? ⟨B, 0, none⟩ = some u ∧ w.cell? ⟨B, 1, none⟩ = some v ∧ w.frozen? ⟨B, 0, none⟩ = false ∧ w.frozen? ⟨B, 1, none⟩ = false ∧ B < w.heap.size := by
  refine ⟨cell_of_row w B 0 _ 26 (0, 0) h, cell_of_row w B 1 _ 26 (0, 0) h, ?_, ?_, h.lt⟩ <;> (unfold Two at h; simp [World.frozen?, h])
theorem heap_alloc_eq (w : World) (o : Obj) (k : Nat) : (w.alloc o).heap[k]? = if k = w.heap.size then some o else w.heap[k]? := by
  show (w.heap.push o)[k]? = _
  rw [Array.getElem?_push]
theorem heap_drew (w : World) : w.drew.heap = w.heap := rfl
theorem heap_drewN (w : World) (n : Nat) : (w.drewN n).heap = w.heap := rfl
theorem size_alloc' (w : World) (o : Obj) : (w.alloc o).heap.size = w.heap.size + 1 := by simp
theorem size_drew (w : World) : w.drew.heap.size = w.heap.size := rfl
theorem size_drewN (w : World) (n : Nat) : (w.drewN n).heap.size = w.heap.size := rfl
theorem Two.set2 {w : World} {B : Nat} {u v u' v' : Value} (h : Two w B u v) : Two ((w.setCell ⟨B, 0, none⟩ u').setCell ⟨B, 1, none⟩ v') B u' v' := by
  unfold Two at h ⊢; simp [World.setCell, Array.getElem?_modify, h]
theorem Two.far {w : World} {B : Nat} {u v x : Value} (h : Two w B u v) {p : Addr} (hp : B ≠ p.block) : Two (w.setCell p x) B u v := (Below.heap_setCell w p x B hp).trans h
theorem Two.alloc {w : World} {B : Nat} {u v : Value} (h : Two w B u v) (o : Obj) : Two (w.alloc o) B u v := (heap_alloc_old w o h.lt).trans h
theorem Two.new (w : World) (u v : Value) : Two (w.alloc (.cells #[u, v] 26)) w.heap.size u v := heap_alloc_new w _
theorem FrsB.mono {w : World} {b b' : Nat} {v : Value} {fs : List Fr} (h : FrsB w b v fs) (hb : b' ≤ b) : FrsB w b' v fs := by
  obtain ⟨rows, hl, ho, hr⟩ := h; exact ⟨rows, hl, own_mono ho hb, hr⟩
theorem own_far {w : World} {B e size n : Nat} {v : Value} {xs : List Value} (h : w.ownsRow B e size v n xs) {g t : Nat} {cur : Array Value} {fr : Nat × Nat} (hg : w.heap[g]? = some (.cells cur t fr)) (ht : t ≠ e) {o : Nat} {u : Value} : (w.setCell ⟨g, o, none⟩ u).ownsRow B e size v n xs := by
  refine ⟨h.1, ?_⟩
  rcases h.2 with hn | ⟨g', cap, cur', hv, hb, hh, r⟩
  · exact .inl hn
  · refine .inr ⟨g', cap, cur', hv, hb, ?_, r⟩
    rw [Below.heap_setCell _ _ _ _ (by rintro rfl; rw [hg] at hh; injection hh with hh; injection hh with _ h2; exact ht h2)]
    exact hh
theorem FrsB.far {w : World} {base : Nat} {v : Value} {fs : List Fr} (h : FrsB w base v fs) {g : Nat} {cur : Array Value} {fr : Nat × Nat} (hg : w.heap[g]? = some (.cells cur 26 fr)) {o : Nat} {u : Value} : FrsB (w.setCell ⟨g, o, none⟩ u) base v fs := by
  obtain ⟨rows, hl, ho, hr⟩ := h
  refine ⟨rows, hl, own_far ho hg (by decide), fun k r f h1 h2 => ?_⟩
  obtain ⟨a, b, c, d, e⟩ := hr k r f h1 h2
  exact ⟨a, b, own_far c hg (by decide), d, own_far e hg (by decide)⟩
theorem FrsB.two {w : World} {base : Nat} {v : Value} {fs : List Fr} (h : FrsB w base v fs) {B : Nat} {a b u u' : Value} (hq : Two w B a b) : FrsB ((w.setCell ⟨B, 0, none⟩ u).setCell ⟨B, 1, none⟩ u') base v fs :=
  (h.far hq).far (g := B) (cur := #[u, b]) (fr := (0, 0)) (by unfold Two at hq; simp [World.setCell, Array.getElem?_modify, hq])
theorem FrsB.alloc {w : World} {base : Nat} {v : Value} {fs : List Fr} (h : FrsB w base v fs) (o : Obj) : FrsB (w.alloc o) base v fs := h.below (Below.alloc (Below.refl _ _) (Nat.le_refl _) o)
def CloneAt (w w' : World) (R B : Nat) (A : Option Addr) (n c : Nat) (fs : List Fr) : Prop :=
  Below w.heap.size w w' ∧ FrsB w' w.heap.size (.slice A n c) fs ∧ w.heap.size ≤ B ∧ B ≠ R ∧ Two w' R (.int .i64 0) (.slice none 0 0) ∧ Two w' B (.int .i64 4) (.slice A n c)

theorem own_heap' {w : World} {B e size n m cap g : Nat} {xs : List Value} (h : w.ownsRow B e size (.slice (some ⟨g, 0, none⟩) m cap) n xs) : ∃ cur, w.heap[g]? = some (.cells cur e (0, 0)) := by
  rcases h.2 with ⟨hn, _⟩ | ⟨g', cap', cur', hv, hb, hh, r⟩
  · cases hn
  · injection hv with hv; injection hv with hv; injection hv with hv; subst hv; exact ⟨_, hh⟩
theorem FrsB.frozen {w : World} {base g n c : Nat} {fs : List Fr} (h : FrsB w base (.slice (some ⟨g, 0, none⟩) n c) fs) (j : Nat) : w.frozen? ⟨g, j, none⟩ = false := by
  obtain ⟨rows, hl, ho, hr⟩ := h
  obtain ⟨cur, hg⟩ := own_heap' ho
  simp [World.frozen?, hg]
theorem FrsB.heap {w : World} {base g n c : Nat} {fs : List Fr} (h : FrsB w base (.slice (some ⟨g, 0, none⟩) n c) fs) : base ≤ g ∧ ∃ cur, w.heap[g]? = some (.cells cur 55 (0, 0)) := by
  obtain ⟨rows, hl, ho, hr⟩ := h
  rcases ho.2 with ⟨hn, _⟩ | ⟨g', cap', cur', hv, hb, hh, r⟩
  · cases hn
  · injection hv with hv; injection hv with hv; injection hv with hv; subst hv; exact ⟨hb, _, hh⟩
theorem Two.ne {w : World} {B g : Nat} {u v : Value} (h : Two w B u v) {cur : Array Value} {fr : Nat × Nat} (hg : w.heap[g]? = some (.cells cur 55 fr)) : B ≠ g := by
  rintro rfl; unfold Two at h; rw [h] at hg; injection hg with hg; injection hg with _ h2; exact absurd h2 (by decide)
theorem item_store {w w1 : World} {R B g n c k : Nat} {fs : List Fr} {f : Fr} (j : Nat) (hj : j = 2 ∨ j = 4) (hb : Below w.heap.size w w1) (fr : FrsB w1 w.heap.size (.slice (some ⟨g, 0, none⟩) n c) fs)
    (hB : w.heap.size ≤ B) (hne : B ≠ R) (tr : Two w1 R (.int .i64 0) (.slice none 0 0)) (tb : Two w1 B (.int .i64 4) (.slice (some ⟨g, 0, none⟩) n c)) (hk : fs[k]? = some f) (v' : Value)
    (ho : ByV w1 v' (if j = 2 then f.a.data else f.b.data)) : CloneAt w (w1.setCell ⟨g, k * 5 + j, none⟩ v') R B (some ⟨g, 0, none⟩) n c fs := by
  obtain ⟨hg, cur, hcur⟩ := fr.heap
  have hkl := (List.getElem?_eq_some_iff.1 hk).1
  have hs := fr.store (k := k) j (by omega) v' f (fun r f' hf hr => by
    obtain rfl : f' = f := by rw [hk] at hf; exact (Option.some.inj hf).symm
    obtain ⟨a, b, c, d, e⟩ := hr
    rcases hj with rfl | rfl
    · exact ⟨{ r with v0 := v' }, rfl, a, b, ho, d, e⟩
    · exact ⟨{ r with v1 := v' }, rfl, a, b, c, d, ho⟩) hkl
  rw [show fs.set k f = fs by obtain ⟨h1, rfl⟩ := List.getElem?_eq_some_iff.1 hk; exact List.set_getElem_self _] at hs
  exact ⟨bS hb hg, hs, hB, hne, tr.far (tr.ne hcur), tb.far (tb.ne hcur)⟩

theorem CloneAt.alloc {w w1 : World} {R B n c : Nat} {A : Option Addr} {fs : List Fr} (h : CloneAt w w1 R B A n c fs) (o : Obj) : CloneAt w (w1.alloc o) R B A n c fs := by
  obtain ⟨a, b, c, d, e, f⟩ := h; exact ⟨bA a, b.alloc o, c, d, e.alloc o, f.alloc o⟩
theorem ByV.alloc {w : World} {v : Value} {l : List UInt8} (h : ByV w v l) (o : Obj) : ByV (w.alloc o) v l := h.below (Below.alloc (Below.refl _ _) (Nat.le_refl _) o)
theorem ByV_setFr {w w1 : World} {g n c o base : Nat} {fs : List Fr} {v u : Value} {l : List UInt8} (h : ByV w v l) (fr : FrsB w base (.slice (some ⟨g, 0, none⟩) n c) fs) : ByV (w.setCell ⟨g, o, none⟩ u) v l := by
  obtain ⟨_, cur, hcur⟩ := fr.heap; exact h.setRow hcur

set_option maxHeartbeats 4000000 in
set_option maxRecDepth 100000 in
theorem pclone_any (w : World) (v : Value) (fs : List Fr) (hv : FrsV w v fs) (hval : Valid fs) :
    Calls Try.prog 43 #[.agg #[.int .i64 4, v]] w fun e w' => ∃ v', e = .returned (.agg #[.int .i64 4, v']) ∧ FrsB w' w.heap.size v' fs ∧ Below w.heap.size w w' := by
  obtain ⟨A, c, rfl, hc, hm⟩ := hv.form
  have HB := Lib.hid (Below.refl w.heap.size w)
  have hv0 := Lib.hid hv
  have hn4 : fs.length ≤ 1000 := by have := hval.1; omega
  have HV := Lib.hid hval
  clear hval
  obtain ⟨n, hn'⟩ : ∃ n, n = fs.length := ⟨_, rfl⟩
  rw [← hn'] at hv hc hv0 hn4 ⊢
  have HN := Lib.hid hn'
  clear hn' hv
  go_enter Try.func43, Try.ntmps43
  go_wp2_with fail
  go_cut [3] (fun b3 w' => ∃ (B : Nat) (A' : Option Addr) (c' : Nat), b3 = .pointer (some ⟨B, 0, none⟩) ∧ CloneAt w w' (w.heap.size + 1) B A' n c' fs)
  case first =>
    go_region_with ((go_at_call 54); (with_reducible refine (sclone_any _ _ fs (hv0.out.below (by repeat (with_reducible first | exact HB.out | exact Below.refl _ _ | apply bA | apply bD | apply bN | refine bS ?_ (by first | assumption | (simp only []; omega) | omega)))) (by have := HN.out; omega)).mono ?_); rintro e w1 ⟨v', rfl, ho, hb1⟩; obtain ⟨A', c', rfl, _, _⟩ := ho.toV.form; rw [← HN.out] at ho ⊢; have HO := Lib.hid ho; have HB1 := Lib.hid (bT (w := w) (by repeat (with_reducible first | exact HB.out | exact Below.refl _ _ | apply bA | apply bD | apply bN | refine bS ?_ (by first | assumption | (simp only []; omega) | omega))) hb1); clear HB; have HB := HB1; clear HB1; (have tx := Two.keep (B := w.heap.size) (u := .int .i64 4) (v := .slice A n c) (by simp only [Two, heap_drew, heap_drewN, heap_alloc_eq, size_alloc', size_drew, size_drewN, ↓reduceIte]; repeat (first | rw [if_pos (by omega)] | rw [if_neg (by omega)])) hb1); (have tr := Two.keep (B := w.heap.size + 1) (u := .int .i64 0) (v := .slice none 0 0) (by simp only [Two, heap_drew, heap_drewN, heap_alloc_eq, size_alloc', size_drew, size_drewN, ↓reduceIte]; repeat (first | rw [if_pos (by omega)] | rw [if_neg (by omega)])) hb1); (obtain ⟨hx0, hx1, fx0, fx1, lx⟩ := tx.all); (obtain ⟨hr0, hr1, fr0, fr1, lr⟩ := tr.all); (have TR := Lib.hid tr); (clear tx tr); (try ((refine (fun (hq : Two w1 (w.heap.size + 1 + 1) (.int .i64 0) (.slice none 0 0)) => ?_) ?_); rotate_left; (focus (refine Two.keep ?_ hb1; ((simp only [Two, heap_drew, heap_drewN, heap_alloc_eq, size_alloc', size_drew, size_drewN, ↓reduceIte]); (repeat (first | rw [if_pos (by omega)] | rw [if_neg (by omega)])); done))); obtain ⟨hy0, hy1, fy0, fy1, ly⟩ := hq.all; have TQ := Lib.hid hq; clear hq)); clear hb1 ho)
    all_goals
      go_wp2_with fail
      go_meet
      case rel =>
        first
          | exact ⟨_, A', c', rfl, (by repeat (with_reducible first | exact HB.out | exact Below.refl _ _ | apply bA | apply bD | apply bN | refine bS ?_ (by first | assumption | (simp only []; omega) | omega))), (HO.out.mono (by simp only [size_alloc', size_drew, size_drewN]; omega)).alloc _, by omega, by omega, TR.out.alloc _, Two.new _ _ _⟩
          | exact ⟨_, A', c', rfl, (by repeat (with_reducible first | exact HB.out | exact Below.refl _ _ | apply bA | apply bD | apply bN | refine bS ?_ (by first | assumption | (simp only []; omega) | omega))), (HO.out.mono (by simp only [size_alloc', size_drew, size_drewN]; omega)).two TQ.out, by omega, by omega, (TR.out.far (by simp)).far (by simp), TQ.out.set2⟩
  case rest =>
    obtain ⟨B, A', c', rfl, hb, hfr, hB, hne, hR, hT⟩ := hcut
    clear HB
    have HB := Lib.hid hb
    obtain ⟨hx0, hx1, fx0, fx1, lx⟩ := hT.all
    have HC := Lib.hid (show CloneAt w wc (w.heap.size + 1) B A' n c' fs from ⟨hb, hfr, hB, hne, hR, hT⟩)
    clear hb hfr hR hT
    go_wp2_with fail
    go_loopw [16] (fun i wr => ∃ k : Nat, k ≤ n ∧ i = .int .i64 k ∧ CloneAt w wr (w.heap.size + 1) B A' n c' fs) (fun i _ => n - (intOf i).toNat)
    case atStart => exact ⟨0, Nat.zero_le _, rfl, HC.out⟩
    case round =>
      obtain ⟨k, hk, rfl, hcl⟩ := hrel
      clear HC HB hx0 hx1 fx0 fx1 lx
      obtain ⟨hb, hfr, _, _, hR, hT⟩ := hcl
      have HB := Lib.hid hb
      have HF := Lib.hid hfr
      have HR := Lib.hid hR
      have HT := Lib.hid hT
      obtain ⟨hx0, hx1, fx0, fx1, lx⟩ := hT.all
      by_cases hlt : k < n
      · obtain ⟨f, hf⟩ : ∃ f, fs[k]? = some f := ⟨fs[k]'(by rw [← HN.out]; exact hlt), List.getElem?_eq_getElem _⟩
        obtain ⟨g, v0, v1, rfl, hg, b0, b1, h0, h1, h2, h3, h4⟩ := hfr.toV.at_ hf
        obtain ⟨A0, c0, rfl, _, _⟩ := b0.form
        obtain ⟨A1, c1, rfl, _, _⟩ := b1.form
        have HK := Lib.hid hf
        have BYa := Lib.hid b0
        have BYb := Lib.hid b1
        have hsum := (valid_at HV.out hf).2.2.2.2
        have hda : f.a.data.length ≤ 1000 := by omega
        have hdb : f.b.data.length ≤ 1000 := by omega
        clear hsum
        clear hb hfr hR hT b0 b1 hf
        go_wp2_with fail
        refine wp_loop_rounds 3 ?_; rw [rounds_succ]
        go_wp2_with fail
        go_region_with (((go_at_call 40); (with_reducible refine (bclone_any _ _ f.a.data (BYa.out.below (by repeat (with_reducible first | exact Below.refl _ _ | apply bA | apply bD | apply bN))) (by omega)).mono ?_); rintro e w1 ⟨v', rfl, ho, hb1⟩; (obtain ⟨Ax, cx, rfl, _, _⟩ := ho.toV.form); (have HO := Lib.hid ho); (have HB1 := Lib.hid (bT (w := w) (by repeat (with_reducible first | exact HB.out | exact Below.refl _ _ | apply bA | apply bD | apply bN | refine bS ?_ (by first | assumption | (simp only []; omega) | omega))) hb1)); clear HB; (have HB := HB1); clear HB1; (have tb := (HT.out.keep (by repeat (with_reducible first | exact Below.refl _ _ | apply bA | apply bD | apply bN))).keep hb1); (have tr := (HR.out.keep (by repeat (with_reducible first | exact Below.refl _ _ | apply bA | apply bD | apply bN))).keep hb1); (have fr := (HF.out.below (by repeat (with_reducible first | exact Below.refl _ _ | apply bA | apply bD | apply bN))).below hb1); (have ff := fr.frozen (k * 5 + 2)); (have BYn := Lib.hid ((BYb.out.below (by repeat (with_reducible first | exact Below.refl _ _ | apply bA | apply bD | apply bN))).below hb1)); clear hb1 ho; (obtain ⟨xg, v0', v1', hgg, hg', _, _, k0, k1, k2, k3, k4⟩ := fr.toV.at_ HK.out); (obtain rfl : g = xg := (by injection hgg with hgg; injection hgg)); clear hgg; (obtain ⟨hy0, hy1, fy0, fy1, ly⟩ := tb.all); (have TB := Lib.hid tb); (have TR := Lib.hid tr); (have FR := Lib.hid fr); clear tb tr fr))
        all_goals
          have HCl := Lib.hid (item_store 2 (by omega) HB.out FR.out (by assumption) (by assumption) TR.out TB.out HK.out _ HO.out.toV)
          clear hx0 hx1 fx0 fx1 lx
          go_wp2_with fail
          rw [rounds_succ]
          go_wp2_with fail
          refine wp_gen (fun w' => CloneAt w w' (w.heap.size + 1) B (some ⟨g, 0, none⟩) n c' fs ∧ ByV w' (.slice A1 f.b.data.length c1) f.b.data ∧ w'.cell? ⟨w1.heap.size, 1, none⟩ = some (.slice A1 f.b.data.length c1)) ⟨HCl.out.alloc _, (ByV_setFr (w1 := w1) BYn.out FR.out).alloc _, by go_simp⟩ ?_
          intro w2 ⟨hcl, hby, hc6⟩
          clear hy0 hy1 fy0 fy1 ly k0 k1 k2 k3 k4 ff HCl HB HF HR HT BYb
          obtain ⟨hb, hfr, hwB, hBR, hR, hT⟩ := hcl
          have HB := Lib.hid hb
          have HF := Lib.hid hfr
          have HR := Lib.hid hR
          have HT := Lib.hid hT
          have BYb := Lib.hid hby
          obtain ⟨hx0, hx1, fx0, fx1, lx⟩ := hT.all
          have lc6 := World.block_lt_of_cell? _ _ hc6
          simp only [] at lc6
          clear hb hfr hR hT hby
          go_region_with (((go_at_call 40); (with_reducible refine (bclone_any _ _ f.b.data (BYb.out.below (by repeat (with_reducible first | exact Below.refl _ _ | apply bA | apply bD | apply bN))) (by omega)).mono ?_); rintro e w1 ⟨v', rfl, ho, hb1⟩; (obtain ⟨Ax, cx, rfl, _, _⟩ := ho.toV.form); (have HO := Lib.hid ho); (have HB1 := Lib.hid (bT (w := w) (by repeat (with_reducible first | exact HB.out | exact Below.refl _ _ | apply bA | apply bD | apply bN | refine bS ?_ (by first | assumption | (simp only []; omega) | omega))) hb1)); clear HB; (have HB := HB1); clear HB1; (have tb := (HT.out.keep (by repeat (with_reducible first | exact Below.refl _ _ | apply bA | apply bD | apply bN))).keep hb1); (have tr := (HR.out.keep (by repeat (with_reducible first | exact Below.refl _ _ | apply bA | apply bD | apply bN))).keep hb1); (have fr := (HF.out.below (by repeat (with_reducible first | exact Below.refl _ _ | apply bA | apply bD | apply bN))).below hb1); (have ff := fr.frozen (k * 5 + 4)); (have BYn := Lib.hid ((BYb.out.below (by repeat (with_reducible first | exact Below.refl _ _ | apply bA | apply bD | apply bN))).below hb1)); clear hb1 ho; (obtain ⟨xg, v0', v1', hgg, hg', _, _, k0, k1, k2, k3, k4⟩ := fr.toV.at_ HK.out); (obtain rfl : g = xg := (by injection hgg with hgg; injection hgg)); clear hgg; (obtain ⟨hy0, hy1, fy0, fy1, ly⟩ := tb.all); (have TB := Lib.hid tb); (have TR := Lib.hid tr); (have FR := Lib.hid fr); clear tb tr fr))
          all_goals
            have HCl := Lib.hid (item_store 4 (by omega) HB.out FR.out (by assumption) (by assumption) TR.out TB.out HK.out _ HO.out.toV)
            clear hx0 hx1 fx0 fx1 lx
            go_wp2_with fail
            rw [rounds_succ]
            go_wp2_with fail
            go_roundw
            case rel => exact ⟨k + 1, by omega, by go_num, HCl.out⟩
            case measure => simp [intOf]; omega
      · clear HB HF HR HT
        have HB := Lib.hid hb
        obtain ⟨hr0, hr1, fr0, fr1, lr⟩ := hR.all
        have HF := Lib.hid hfr
        have HR := Lib.hid hR
        clear hb hfr hR hT
        go_wp2
        exact bodyPost_ret (v := .agg #[.int .i64 4, .slice A' n c']) (by simp [results, Try.results43, go_sem, hr0, hr1, fr0, fr1]) rfl ⟨_, rfl, HF.out.two HR.out, (by repeat (with_reducible first | exact HB.out | exact Below.refl _ _ | apply bA | apply bD | apply bN | refine bS ?_ (by first | assumption | (simp only []; omega) | omega)))⟩
end Go.Proofs.Ytfdmmbalfjcehaa
