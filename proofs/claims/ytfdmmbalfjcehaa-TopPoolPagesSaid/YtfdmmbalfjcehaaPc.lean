/- Contract of pool.Check: a valid pool is found without fault. -/
import Derived.Test.YtfdmmbalfjcehaaPb
namespace Go.Proofs.Ytfdmmbalfjcehaa
open Go.RowKit
set_option linter.unusedVariables false
attribute [local go_sem] lt_more lt_more2 lt_more3 lt_more4 lt_more5 lt_more6 lt_more7 lt_more8 idx0 idx1

theorem valid_at {fs : List Fr} (h : Valid fs) {k : Nat} {f : Fr} (hk : fs[k]? = some f) : f.ok := h.2.1 f (List.mem_of_getElem? hk)
theorem valid_lt {fs : List Fr} (h : Valid fs) {k : Nat} {f g : Fr} (hf : fs[k]? = some f) (hg : fs[k + 1]? = some g) : f.num < g.num := by
  obtain ⟨h1, rfl⟩ := List.getElem?_eq_some_iff.1 hf
  obtain ⟨h2, rfl⟩ := List.getElem?_eq_some_iff.1 hg
  have := List.pairwise_iff_getElem.1 h.2.2.1 k (k + 1) (by simpa using h1) (by simpa using h2) (by omega)
  simpa using this

theorem abs_cases (x : It) (h : x.absent ∨ x.ok) : (absB x.slot x.data.length = true ∧ itemB x.slot x.data.length = false ∧ x.absent) ∨ (absB x.slot x.data.length = false ∧ itemB x.slot x.data.length = true ∧ x.ok) := by
  rcases h with h | h
  · left; refine ⟨?_, ?_, h⟩
    · obtain ⟨h1, h2⟩ := h; simp [absB, h1, h2]
    · obtain ⟨h1, h2⟩ := h; simp [itemB, h1]
  · right; refine ⟨?_, ?_, h⟩
    · obtain ⟨h1, h2, h3, h4⟩ := h; have : ¬ x.slot = -1 := by omega
      simp [absB, this]
    · exact decide_eq_true h

theorem abs_two (x : It) (h : x.absent ∨ x.ok) : absB x.slot x.data.length = true ∧ itemB x.slot x.data.length = false ∨ absB x.slot x.data.length = false ∧ itemB x.slot x.data.length = true := by
  rcases abs_cases x h with ⟨a, b, _⟩ | ⟨a, b, _⟩
  · exact .inl ⟨a, b⟩
  · exact .inr ⟨a, b⟩

def seenB (L : List It) (j : Nat) : Bool := L.any fun x => x.slot == (j : Int)
theorem seenB_snoc (L : List It) (x : It) (j : Nat) : seenB (L ++ [x]) j = (seenB L j || x.slot == (j : Int)) := by simp [seenB]
def seenAt (w : World) (B : Nat) (L : List It) : Prop := ∀ j, j < 64 → w.cell? ⟨B, j, none⟩ = some (.bool (seenB L j)) ∧ w.frozen? ⟨B, j, none⟩ = false

theorem items_append (a b : List Fr) : items (a ++ b) = items a ++ items b := by unfold items; rw [List.flatMap_append, List.filter_append]
theorem items_snoc (fs : List Fr) (k : Nat) (f : Fr) (hf : fs[k]? = some f) : items (fs.take (k + 1)) = items (fs.take k) ++ items [f] := by
  obtain ⟨hk, rfl⟩ := List.getElem?_eq_some_iff.1 hf
  rw [List.take_succ_eq_append_getElem hk, items_append]
theorem items_one (f : Fr) : items [f] = (if f.a.absent then [] else [f.a]) ++ (if f.b.absent then [] else [f.b]) := by
  by_cases ha : f.a.absent <;> by_cases hb : f.b.absent <;> simp [items, Fr.its, ha, hb]
theorem items_nodup {fs : List Fr} (h : Valid fs) (k : Nat) (f : Fr) (hf : fs[k]? = some f) : ((items (fs.take k) ++ items [f]).map It.slot).Nodup := by
  rw [← items_snoc fs k f hf]
  have : items fs = items (fs.take (k + 1)) ++ items (fs.drop (k + 1)) := by
    rw [← items_append, List.take_append_drop]
  have hn := h.2.2.2
  rw [this, List.map_append] at hn
  exact (List.nodup_append.1 hn).1
theorem seen_new {L M : List It} (h : ((L ++ M).map It.slot).Nodup) {x : It} (hx : x ∈ M) (hp : 0 ≤ x.slot) : seenB L x.slot.toNat = false := by
  rw [List.map_append] at h
  have h3 := (List.nodup_append.1 h).2.2
  simp only [seenB, List.any_eq_false]
  intro y hy
  have := h3 y.slot (List.mem_map_of_mem hy) x.slot (List.mem_map_of_mem hx)
  simp; omega
theorem frozen_new (w : World) (cs : Array Value) (t : TypeId) (j : Nat) : (w.alloc (.cells cs t)).frozen? ⟨w.heap.size, j, none⟩ = false := by
  unfold World.frozen?; rw [heap_alloc_new]; simp
theorem seenAt_set {w : World} {B : Nat} {L : List It} (h : seenAt w B L) {x : It} (hp : 0 ≤ x.slot) (hq : x.slot < 64) : seenAt (w.setCell ⟨B, x.slot.toNat, none⟩ (.bool true)) B (L ++ [x]) := by
  intro j hj
  have hs := h j hj
  have hx := h x.slot.toNat (by omega)
  refine ⟨?_, ?_⟩
  · by_cases e : j = x.slot.toNat
    · subst e
      rw [World.cell?_setCell_same _ _ _ hx.1]
      rw [seenB_snoc]; congr 2; simp; right; omega
    · rw [World.cell?_setCell_other _ _ _ _ (by intro e2; injection e2 with _ e3; exact e e3.symm), hs.1, seenB_snoc]
      have : (x.slot == (j : Int)) = false := by simp; omega
      rw [this, Bool.or_false]
  · rw [World.frozen?_setCell]; exact hs.2
theorem seenAt_keep {w w' : World} {B : Nat} {L : List It} (h : seenAt w B L) (hb : w'.heap[B]? = w.heap[B]?) : seenAt w' B L := fun j hj =>
  ⟨(World.cell?_of_block (w := w) (a := ⟨B, j, none⟩) hb).trans (h j hj).1, (World.frozen?_of_block (w := w) (a := ⟨B, j, none⟩) hb).trans (h j hj).2⟩

theorem seenAt_alloc {w : World} {B : Nat} {L : List It} (h : seenAt w B L) (o : Obj) : seenAt (w.alloc o) B L :=
  seenAt_keep h (heap_alloc_old w o (World.block_lt_of_cell? _ _ (h 0 (by omega)).1))

set_option maxHeartbeats 4000000 in
set_option maxRecDepth 100000 in
theorem check_one (w : World) (v : Value) (fs : List Fr) (hv : FrsV w v fs) (hf : Valid fs) :
    Calls Try.prog 21 #[.agg #[.int .i64 4, v]] w fun e w' => e = .returned (.int .i64 0) ∧ Below w.heap.size w w' := by
  obtain ⟨A, c, rfl, hc, hm⟩ := hv.form
  have HB := Lib.hid (Below.refl w.heap.size w)
  have hn4 := hf.1
  obtain ⟨n, hn'⟩ : ∃ n, n = fs.length := ⟨_, rfl⟩
  rw [← hn'] at hn4 hv hc ⊢
  have HN := Lib.hid hn'
  have HF := Lib.hid hf
  clear hn' hf
  have hd4 : decide (4 < (n : Int)) = false := decide_eq_false (by omega)
  go_enter Try.func21, Try.ntmps21
  go_wp2
  go_loopw [27] (fun i wr => ∃ k : Nat, k ≤ n ∧ i = .int .i64 k ∧ Below w.heap.size w wr ∧ wr.cell? ⟨w.heap.size, 1, none⟩ = some (.slice A n c)) (fun i _ => n - (intOf i).toNat)
  case atStart => exact ⟨0, Nat.zero_le _, rfl, (by repeat (with_reducible first | exact HB.out | exact Below.refl _ _ | apply bA | apply bD | apply bN | refine bS ?_ (by first | assumption | (simp only []; omega) | omega))), by go_simp⟩
  case round =>
    obtain ⟨k, hk, rfl, hb, hbox⟩ := hrel
    have hv' := hv.below hb
    have hbl : w.heap.size < wr.heap.size := World.block_lt_of_cell? _ _ hbox
    clear HB; have HB := Lib.hid hb; clear hb
    by_cases hlt : k < n
    · obtain ⟨f, hf⟩ : ∃ f, fs[k]? = some f := ⟨fs[k]'(by rw [← HN.out]; exact hlt), List.getElem?_eq_getElem _⟩
      have hok := valid_at HF.out hf
      obtain ⟨⟨o1, o2⟩, oa, ob, onb, osum⟩ := hok
      have onb' : ¬ (absB f.a.slot f.a.data.length = true ∧ absB f.b.slot f.b.data.length = true) := by
        rintro ⟨x, y⟩
        rcases abs_cases _ oa with ⟨_, _, x'⟩ | ⟨x', _⟩
        · rcases abs_cases _ ob with ⟨_, _, y'⟩ | ⟨y', _⟩
          · exact onb ⟨x', y'⟩
          · rw [y'] at y; cases y
        · rw [x'] at x; cases x
      have oa' := abs_two _ oa
      have ob' := abs_two _ ob
      obtain ⟨g, v0, v1, rfl, hg, b0, b1, h0, h1, h2, h3, h4⟩ := hv'.at_ hf
      obtain ⟨A0, c0, rfl, _, _⟩ := b0.form
      obtain ⟨A1, c1, rfl, _, _⟩ := b1.form
      have Fm := Lib.hid (fun W => form_any W f.num f.a.slot f.b.slot A0 A1 f.a.data.length c0 f.b.data.length c1 (by omega) osum oa' ob' onb')
      clear oa ob onb osum onb' oa' ob' b0 b1
      have d1 : decide (f.num < 0) = false := decide_eq_false (by omega)
      have d2 : decide (256 ≤ f.num) = false := decide_eq_false (by omega)
      cases k with
      | zero =>
        clear hv hv' hf
        go_wp2_with fail
        go_quiet (fail)
        go_wp2_with (first | ((go_at_call 39); (with_reducible refine (Fm.out _).mono ?_); rintro e w1 ⟨rfl, hb1⟩; have HB1 := Lib.hid (bT (w := w) ((by repeat (with_reducible first | exact HB.out | exact Below.refl _ _ | apply bA | apply bD | apply bN | refine bS ?_ (by first | assumption | (simp only []; omega) | omega)))) hb1); clear HB; have HB := HB1; clear HB1; obtain ⟨hc1, hf1, hl1⟩ := bc3 hb1; clear hb1))
        go_roundw
        case rel => exact ⟨1, by omega, by go_num, (by repeat (with_reducible first | exact HB.out | exact Below.refl _ _ | apply bA | apply bD | apply bN | refine bS ?_ (by first | assumption | (simp only []; omega) | omega))), by go_simp⟩
        case measure => simp [intOf]; omega
      | succ k =>
        obtain ⟨f', hf'⟩ : ∃ f, fs[k]? = some f := ⟨fs[k]'(by rw [← HN.out]; omega), List.getElem?_eq_getElem _⟩
        have hlt2 := valid_lt HF.out hf' hf
        have d3 : decide (f.num ≤ f'.num) = false := decide_eq_false (by omega)
        obtain ⟨g', v0', v1', hg2, _, _, _, h0', _⟩ := hv'.at_ hf'
        obtain rfl : g = g' := by injection hg2 with e; injection e
        clear hg2 hv hv' hf hf'
        go_wp2_with fail
        go_quiet (fail)
        go_wp2_with (first | ((go_at_call 39); (with_reducible refine (Fm.out _).mono ?_); rintro e w1 ⟨rfl, hb1⟩; have HB1 := Lib.hid (bT (w := w) ((by repeat (with_reducible first | exact HB.out | exact Below.refl _ _ | apply bA | apply bD | apply bN | refine bS ?_ (by first | assumption | (simp only []; omega) | omega)))) hb1); clear HB; have HB := HB1; clear HB1; obtain ⟨hc1, hf1, hl1⟩ := bc3 hb1; clear hb1))
        go_roundw
        case rel => exact ⟨k + 1 + 1, by omega, by go_num, (by repeat (with_reducible first | exact HB.out | exact Below.refl _ _ | apply bA | apply bD | apply bN | refine bS ?_ (by first | assumption | (simp only []; omega) | omega))), by go_simp⟩
        case measure => simp [intOf]; omega
    · obtain ⟨wo, rfl⟩ : ∃ wo : World, wo = wr := ⟨_, rfl⟩
      clear hv'
      go_wp2_with fail
      go_loopw [64] (fun i w2 => ∃ k2 : Nat, k2 ≤ n ∧ i = .int .i64 k2 ∧ Below w.heap.size w w2 ∧ Hid (seenAt w2 wo.heap.size (items (fs.take k2)))) (fun i _ => n - (intOf i).toNat)
      case atStart =>
        refine ⟨0, Nat.zero_le _, rfl, (by repeat (with_reducible first | exact HB.out | exact Below.refl _ _ | apply bA | apply bD | apply bN | refine bS ?_ (by first | assumption | (simp only []; omega) | omega))), Lib.hid fun j hj => ⟨?_, ?_⟩⟩
        · refine (cell_of_row _ wo.heap.size j (Array.replicate 64 (.bool false)) 70 (0, 0) (heap_alloc_new wo _)).trans ?_
          rw [Array.getElem?_replicate, if_pos hj]; rfl
        · exact frozen_new wo _ _ _
      case round =>
        obtain ⟨k2, hk2, rfl, hb, hs⟩ := hrel
        have hv2 := hv.below hb
        clear HB; have HB := Lib.hid hb; clear hb
        by_cases hlt2 : k2 < n
        · obtain ⟨f, hf⟩ : ∃ f, fs[k2]? = some f := ⟨fs[k2]'(by rw [← HN.out]; exact hlt2), List.getElem?_eq_getElem _⟩
          have hok := valid_at HF.out hf
          obtain ⟨g, v0, v1, rfl, hg, b0, b1, h0, h1, h2, h3, h4⟩ := hv2.at_ hf
          obtain ⟨A0, c0, rfl, _, _⟩ := b0.form
          obtain ⟨A1, c1, rfl, _, _⟩ := b1.form
          have hnd := Lib.hid (items_nodup HF.out k2 f hf)
          have hsn := Lib.hid (items_snoc fs k2 f hf)
          have hi1 := Lib.hid (items_one f)
          have hlo : wo.heap.size < wr.heap.size := World.block_lt_of_cell? _ _ (hs.out 0 (by omega)).1
          have hne : wo.heap.size ≠ wr.heap.size := by omega
          obtain ⟨⟨o1, o2⟩, oa, ob, onb, osum⟩ := hok
          have ob' := Lib.hid ob
          have onb' := Lib.hid onb
          clear o1 o2 ob onb osum b0 b1 hv2 hf hv hbox
          rcases abs_cases _ oa with ⟨a1, _, a2⟩ | ⟨a1, _, a2⟩
          · rcases abs_cases _ ob'.out with ⟨e1, _, e2⟩ | ⟨e1, _, e2⟩
            · exact absurd ⟨a2, e2⟩ onb'.out
            · have hE := Lib.hid (show items [f] = [f.b] by rw [hi1.out, if_pos a2, if_neg (fun h => by have := e2.1; have := h.1; omega)]; rfl)
              obtain ⟨p1, p2, _, _⟩ := e2
              have hsx := hs.out f.b.slot.toNat (by omega)
              rw [seen_new hnd.out (x := f.b) (by rw [hE.out]; simp) p1] at hsx
              obtain ⟨hs1, hs2⟩ := hsx
              clear a2 oa
              go_wp2
              refine wp_loop_rounds 3 ?_; rw [rounds_succ]
              go_wp2_with (first | ((go_at_call 23); (with_reducible refine (absent_any _ _ _ _ _).mono ?_); rintro e w1 ⟨rfl, rfl⟩))
              rw [rounds_succ]
              go_wp2_with (first | ((go_at_call 23); (with_reducible refine (absent_any _ _ _ _ _).mono ?_); rintro e w1 ⟨rfl, rfl⟩))
              rw [rounds_succ]
              go_wp2
              go_roundw
              case rel => exact ⟨k2 + 1, by omega, by go_num, (by repeat (with_reducible first | exact HB.out | exact Below.refl _ _ | apply bA | apply bD | apply bN | refine bS ?_ (by first | assumption | (simp only []; omega) | omega))), Lib.hid (by rw [hsn.out, hE.out]; repeat (first | (with_reducible exact hs.out) | (with_reducible refine seenAt_set ?_ (by assumption) (by assumption)) | (with_reducible refine seenAt_alloc ?_ _)))⟩
              case measure => simp [intOf]; omega
          · rcases abs_cases _ ob'.out with ⟨e1, _, e2⟩ | ⟨e1, _, e2⟩
            · have hE := Lib.hid (show items [f] = [f.a] by rw [hi1.out, if_neg (fun h => by have := a2.1; have := h.1; omega), if_pos e2]; rfl)
              obtain ⟨p1, p2, _, _⟩ := a2
              have hsx := hs.out f.a.slot.toNat (by omega)
              rw [seen_new hnd.out (x := f.a) (by rw [hE.out]; simp) p1] at hsx
              obtain ⟨hs1, hs2⟩ := hsx
              clear e2 oa
              go_wp2
              refine wp_loop_rounds 3 ?_; rw [rounds_succ]
              go_wp2_with (first | ((go_at_call 23); (with_reducible refine (absent_any _ _ _ _ _).mono ?_); rintro e w1 ⟨rfl, rfl⟩))
              rw [rounds_succ]
              go_wp2_with (first | ((go_at_call 23); (with_reducible refine (absent_any _ _ _ _ _).mono ?_); rintro e w1 ⟨rfl, rfl⟩))
              rw [rounds_succ]
              go_wp2
              go_roundw
              case rel => exact ⟨k2 + 1, by omega, by go_num, (by repeat (with_reducible first | exact HB.out | exact Below.refl _ _ | apply bA | apply bD | apply bN | refine bS ?_ (by first | assumption | (simp only []; omega) | omega))), Lib.hid (by rw [hsn.out, hE.out]; repeat (first | (with_reducible exact hs.out) | (with_reducible refine seenAt_set ?_ (by assumption) (by assumption)) | (with_reducible refine seenAt_alloc ?_ _)))⟩
              case measure => simp [intOf]; omega
            · have hE := Lib.hid (show items [f] = [f.a] ++ [f.b] by rw [hi1.out, if_neg (fun h => by have := a2.1; have := h.1; omega), if_neg (fun h => by have := e2.1; have := h.1; omega)])
              obtain ⟨p1, p2, _, _⟩ := a2
              obtain ⟨q1, q2, _, _⟩ := e2
              have hsx := hs.out f.a.slot.toNat (by omega)
              rw [seen_new hnd.out (x := f.a) (by rw [hE.out]; simp) p1] at hsx
              obtain ⟨hs1, hs2⟩ := hsx
              have hsy := hs.out f.b.slot.toNat (by omega)
              rw [seen_new hnd.out (x := f.b) (by rw [hE.out]; simp) q1] at hsy
              obtain ⟨hs3, hs4⟩ := hsy
              have hdiff : f.a.slot.toNat ≠ f.b.slot.toNat := by
                have := hnd.out
                rw [hE.out, List.map_append] at this
                have h3 := (List.nodup_append.1 this).2.1
                simp at h3; omega
              clear oa
              go_wp2
              refine wp_loop_rounds 3 ?_; rw [rounds_succ]
              go_wp2_with (first | ((go_at_call 23); (with_reducible refine (absent_any _ _ _ _ _).mono ?_); rintro e w1 ⟨rfl, rfl⟩))
              rw [rounds_succ]
              go_wp2_with (first | ((go_at_call 23); (with_reducible refine (absent_any _ _ _ _ _).mono ?_); rintro e w1 ⟨rfl, rfl⟩))
              rw [rounds_succ]
              go_wp2
              go_roundw
              case rel => exact ⟨k2 + 1, by omega, by go_num, (by repeat (with_reducible first | exact HB.out | exact Below.refl _ _ | apply bA | apply bD | apply bN | refine bS ?_ (by first | assumption | (simp only []; omega) | omega))), Lib.hid (by rw [hsn.out, hE.out, ← List.append_assoc]; repeat (first | (with_reducible exact hs.out) | (with_reducible refine seenAt_set ?_ (by assumption) (by assumption)) | (with_reducible refine seenAt_alloc ?_ _)))⟩
              case measure => simp [intOf]; omega
        · go_wp2
          go_ret
          exact ⟨rfl, (by repeat (with_reducible first | exact HB.out | exact Below.refl _ _ | apply bA | apply bD | apply bN | refine bS ?_ (by first | assumption | (simp only []; omega) | omega)))⟩
end Go.Proofs.Ytfdmmbalfjcehaa
