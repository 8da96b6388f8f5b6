/- Owned frames: what a call has made itself and may write; contracts of bytes.Clone and slices.Clone. -/
import Derived.Test.YtfdmmbalfjcehaaPg
import Derived.Test.YtfdmmbalfjcehaaPh
namespace Go.Proofs.Ytfdmmbalfjcehaa
open Go.RowKit
set_option linter.unusedVariables false

def ByB (w : World) (base : Nat) (v : Value) (l : List UInt8) : Prop := w.ownsRow base 5 1 v l.length (l.map bc)
def FrsB (w : World) (base : Nat) (v : Value) (fs : List Fr) : Prop :=
  ∃ rows : List Rw, rows.length = fs.length ∧ w.ownsRow base 55 5 v fs.length (rows.flatMap Rw.cells) ∧ ∀ (k : Nat) (r : Rw) (f : Fr), rows[k]? = some r → fs[k]? = some f → RelR w r f

theorem own_mono {w : World} {b b' : Nat} {e : TypeId} {size : Nat} {v : Value} {n : Nat} {xs : List Value} (h : w.ownsRow b e size v n xs) (hb : b' ≤ b) : w.ownsRow b' e size v n xs := by
  refine ⟨h.1, ?_⟩
  rcases h.2 with hn | ⟨g, cap, cur, hv, hg, hh⟩
  · exact .inl hn
  · exact .inr ⟨g, cap, cur, hv, by omega, hh⟩
theorem own_belowB {w w' : World} {B e size n : Nat} {v : Value} {xs : List Value} (h : w.ownsRow B e size v n xs) (hb : Below w.heap.size w w') : w'.ownsRow B e size v n xs := by
  refine ⟨h.1, ?_⟩
  rcases h.2 with hn | ⟨g, cap, cur, hv, hg, hh, r⟩
  · exact .inl hn
  · exact .inr ⟨g, cap, cur, hv, hg, (hb.block g (Array.getElem?_eq_some_iff.1 hh).1).trans hh, r⟩
theorem ByB.toV {w : World} {base : Nat} {v : Value} {l : List UInt8} (h : ByB w base v l) : ByV w v l := own_mono h (Nat.zero_le _)
theorem FrsB.toV {w : World} {base : Nat} {v : Value} {fs : List Fr} (h : FrsB w base v fs) : FrsV w v fs := by
  obtain ⟨rows, hl, ho, hr⟩ := h; exact ⟨rows, hl, own_mono ho (Nat.zero_le _), hr⟩
theorem FrsB.below {w w' : World} {base : Nat} {v : Value} {fs : List Fr} (h : FrsB w base v fs) (hb : Below w.heap.size w w') : FrsB w' base v fs := by
  obtain ⟨rows, hl, ho, hr⟩ := h
  exact ⟨rows, hl, own_belowB ho hb, fun k r f h1 h2 => (hr k r f h1 h2).below hb⟩
theorem ByB.below {w w' : World} {base : Nat} {v : Value} {l : List UInt8} (h : ByB w base v l) (hb : Below w.heap.size w w') : ByB w' base v l := own_belowB h hb

theorem bytes_get (l : List UInt8) (j : Nat) : (l.map fun u : UInt8 => ((u.toNat : Nat) : Int)).getD j 0 = match l[j]? with | some u => (u.toNat : Int) | none => 0 := by
  simp only [List.getD, List.getElem?_map]
  cases l[j]? <;> rfl
theorem map_bc (l : List UInt8) : (l.map fun u : UInt8 => ((u.toNat : Nat) : Int)).map (Value.int .u8) = l.map bc := by
  rw [List.map_map]; rfl
theorem add_zero_add (g j : Nat) : (⟨g, 0, none⟩ : Addr).add j = ⟨g, j, none⟩ := by unfold Addr.add; split <;> simp_all

theorem bclone_any (w : World) (v : Value) (l : List UInt8) (hv : ByV w v l) (hl : l.length ≤ 1000) :
    Calls Try.prog 40 #[v] w fun e w' => ∃ v', e = .returned v' ∧ ByB w' w.heap.size v' l ∧ Below w.heap.size w w' := by
  obtain ⟨A, c, rfl, h1, h2, hn, hs⟩ := own_form hv
  cases A with
  | none =>
    obtain ⟨e1, rfl⟩ := hn rfl
    obtain rfl : l = [] := List.eq_nil_of_length_eq_zero e1
    refine (Try.bytes_Clone_nil _ _ _).mono ?_
    rintro e w' ⟨rfl, rfl⟩
    exact ⟨_, rfl, World.ownsRow_nil _ _ _ _, Below.refl _ _⟩
  | some a =>
    obtain ⟨g, rfl, _, _, hc⟩ := hs a rfl
    refine (Try.bytes_Clone_at ⟨g, 0, none⟩ l.length c (l.map fun u : UInt8 => ((u.toNat : Nat) : Int)) w (by simp) (by omega) ?_).mono ?_
    · intro i hi
      rw [add_zero_add, bytes_get, List.getElem?_eq_getElem hi]
      exact hc i _ (by simp [hi, bc])
    · rintro e w' ⟨v', rfl, ho, _, hb⟩
      rw [map_bc] at ho
      exact ⟨v', rfl, ho, hb⟩

theorem info55 : (Try.prog.info? 55).map (fun i => (i.zero, i.size, i.bytes)) = some (some (.agg #[.int .i64 0, .int .i64 0, .slice none 0 0, .int .i64 0, .slice none 0 0]), 5, 72) := by kernel_rfl
theorem flat_len (rows : List Rw) : (rows.flatMap Rw.cells).length = rows.length * 5 := by
  induction rows with
  | nil => rfl
  | cons r rs ih => rw [List.flatMap_cons, List.length_append, ih]; simp [Rw.cells]; omega
def Rw.one (r : Rw) : Prop := r.v0.oneCell' = true ∧ r.v1.oneCell' = true
theorem flat_one {rows : List Rw} (h : ∀ r ∈ rows, r.one) : ∀ u ∈ rows.flatMap Rw.cells, u.oneCell' = true := by
  intro u hu
  obtain ⟨r, hr, hm⟩ := List.mem_flatMap.1 hu
  obtain ⟨h0, h1⟩ := h r hr
  simp [Rw.cells] at hm
  rcases hm with rfl | rfl | rfl | rfl | rfl <;> first | rfl | assumption
theorem RelR.one_ {w : World} {r : Rw} {f : Fr} (h : RelR w r f) : r.one := by
  obtain ⟨_, _, a, _, b⟩ := h
  obtain ⟨A, c, h1, _⟩ := a.form
  obtain ⟨A', c', h2, _⟩ := b.form
  exact ⟨by rw [h1]; rfl, by rw [h2]; rfl⟩

set_option maxRecDepth 100000 in
theorem sclone_some (a : Addr) (n c : Nat) (xs : List Value) (w : World) (hx : xs.length = n * 5) (hbig : n ≤ 1000) (hc : ∀ i u, xs[i]? = some u → w.cell? (a.add i) = some u) (h1 : ∀ u ∈ xs, u.oneCell' = true) :
    Calls Try.prog 54 #[.slice (some a) n c] w fun e w' => ∃ v', e = .returned v' ∧ w'.ownsRow w.heap.size 55 5 v' n xs ∧ Below w.heap.size w w' := by
  obtain ⟨i0, hi, hz0, hz1, hz2⟩ := info_parts info55
  have q22 : ∀ (w : World) (a : Option Addr) (n c n' c' : Nat), (binOp .eql 24 (.slice a n c) (.slice none n' c')).run Try.prog w = .ok (.bool a.isNone) w := fun w a n c n' c' => Lib.run_eql_slice_nil w _ _ a n c n' c' Try.underlying24
  have u22 : ∀ w, Sem.run Try.prog (underlying 24) w = .ok (TypeDesc.slice 55) w := run_underlying Try.underlying24
  have z5 : ∀ w, Sem.run Try.prog (Go.sizeOf 55) w = .ok 5 w := fun w => by simp [Go.sizeOf, typeInfo, hi, hz1]
  have hA := Lib.hid hc
  have hB := Lib.hid h1
  have hX := Lib.hid hx
  clear hc h1 hx
  go_enter Try.func54, Try.ntmps54
  go_wp2_with (at_builtin; refine wpList_append_own _ rfl _ _ 24 rfl w.heap.size 55 i0 _ 5 72 Try.underlying24 hi hz0 hz1 hz2 rfl (by decide) _ _ _ rfl (World.ownsRow_made w #[] 0 (Nat.le_refl _) (Nat.zero_le _) rfl) a n c xs rfl hX.out ?qc2 hB.out ?qc4 ?qc5 ?qc6 ?_)
  case qc2 =>
    intro j u hj
    exact Lib.cell?_alloc_some _ (hA.out j u hj)
  case qc4 => unfold maxLen; omega
  case qc5 => omega
  case qc6 => simp
  intro v' w1 hown hgrow hnil
  have HO := Lib.hid hown
  clear hown hnil
  go_wp2
  go_ret
  refine ⟨v', rfl, by simpa using HO.out, ?_⟩
  exact ((Below.refl _ _).alloc (Nat.le_refl _) _).grown hgrow (by simp) (by intro k hk; simp [Value.ownBlock] at hk; omega)

theorem sclone_nil (w : World) : Calls Try.prog 54 #[.slice none 0 0] w fun e w' => e = .returned (.slice none 0 0) ∧ w = w' := by
  have q22 : ∀ (w : World) (a : Option Addr) (n c n' c' : Nat), (binOp .eql 24 (.slice a n c) (.slice none n' c')).run Try.prog w = .ok (.bool a.isNone) w := fun w a n c n' c' => Lib.run_eql_slice_nil w _ _ a n c n' c' Try.underlying24
  go_enter Try.func54, Try.ntmps54
  go_wp2
  go_ret
  exact ⟨rfl, rfl⟩

theorem sclone_any (w : World) (v : Value) (fs : List Fr) (hv : FrsV w v fs) (hl : fs.length ≤ 1000) :
    Calls Try.prog 54 #[v] w fun e w' => ∃ v', e = .returned v' ∧ FrsB w' w.heap.size v' fs ∧ Below w.heap.size w w' := by
  obtain ⟨rows, hr, ho, hrel⟩ := hv
  obtain ⟨A, c, rfl, h1, h2, hn, hs⟩ := own_form ho
  cases A with
  | none =>
    obtain ⟨e1, rfl⟩ := hn rfl
    obtain rfl : fs = [] := List.eq_nil_of_length_eq_zero e1
    refine (sclone_nil _).mono ?_
    rintro e w' ⟨rfl, rfl⟩
    exact ⟨_, rfl, ⟨[], rfl, World.ownsRow_nil _ _ _ _, by simp⟩, Below.refl _ _⟩
  | some a =>
    obtain ⟨g, rfl, _, _, hc⟩ := hs a rfl
    refine (sclone_some ⟨g, 0, none⟩ fs.length c _ w (by rw [flat_len, hr]) hl (fun i u hu => by rw [add_zero_add]; exact hc i u hu) (flat_one ?_)).mono ?_
    · intro r hrm
      obtain ⟨k, hk⟩ := List.getElem?_of_mem hrm
      have hkl : k < fs.length := by have := (List.getElem?_eq_some_iff.1 hk).1; omega
      exact (hrel k r _ hk (List.getElem?_eq_getElem hkl)).one_
    · rintro e w' ⟨v', rfl, ho', hb⟩
      exact ⟨v', rfl, ⟨rows, hr, ho', fun k r f a b => (hrel k r f a b).below hb⟩, hb⟩

/-! a store into an owned row of frames -/
theorem flat_set (rows : List Rw) (k : Nat) (r r' : Rw) (h : rows[k]? = some r) (j : Nat) (hj : j < 5) (u : Value) (he : r'.cells = r.cells.set j u) :
    (rows.set k r').flatMap Rw.cells = (rows.flatMap Rw.cells).set (k * 5 + j) u := by
  induction rows generalizing k with
  | nil => simp at h
  | cons x xs ih =>
    cases k with
    | zero =>
      simp at h; subst h
      rw [List.set_cons_zero, List.flatMap_cons, List.flatMap_cons, he, List.set_append_left _ _ (by simp [Rw.cells]; omega)]
      simp
    | succ k =>
      simp at h
      rw [List.set_cons_succ, List.flatMap_cons, List.flatMap_cons, ih k h, List.set_append_right _ _ (by simp [Rw.cells]; omega)]
      congr 2; simp [Rw.cells]; omega

theorem ByV.setRow {w : World} {v : Value} {l : List UInt8} (h : ByV w v l) {g : Nat} {cur : Array Value} {fr : Nat × Nat} (hg : w.heap[g]? = some (.cells cur 55 fr)) {o : Nat} {u : Value} : ByV (w.setCell ⟨g, o, none⟩ u) v l := by
  refine ⟨h.1, ?_⟩
  rcases h.2 with hn | ⟨g', cap, cur', hv, hb, hh, r⟩
  · exact .inl hn
  · refine .inr ⟨g', cap, cur', hv, hb, ?_, r⟩
    rw [Below.heap_setCell _ _ _ _ (by rintro rfl; rw [hg] at hh; injection hh with hh; injection hh with _ h2; exact absurd h2 (by decide))]
    exact hh
theorem own_heap {w : World} {B e size n cap g : Nat} {xs : List Value} (h : w.ownsRow B e size (.slice (some ⟨g, 0, none⟩) n cap) n xs) : ∃ cur, w.heap[g]? = some (.cells cur e (0, 0)) := by
  rcases h.2 with ⟨hn, _⟩ | ⟨g', cap', cur', hv, hb, hh, r⟩
  · cases hn
  · injection hv with hv; injection hv with hv; injection hv with hv; subst hv; exact ⟨_, hh⟩

/-- One cell of frame k is written; what the frame then is, is f'. -/
theorem FrsB.store {w : World} {base g c : Nat} {fs : List Fr} {n : Nat} (h : FrsB w base (.slice (some ⟨g, 0, none⟩) n c) fs) {k : Nat} (j : Nat) (hj : j < 5) (u : Value) (f' : Fr)
    (hrel : ∀ (r : Rw) (f : Fr), fs[k]? = some f → RelR w r f → ∃ r' : Rw, r'.cells = r.cells.set j u ∧ RelR w r' f') (hk : k < fs.length) :
    FrsB (w.setCell ⟨g, k * 5 + j, none⟩ u) base (.slice (some ⟨g, 0, none⟩) n c) (fs.set k f') := by
  obtain ⟨rows, hr, ho, hrl⟩ := h
  obtain rfl : n = fs.length := by
    obtain ⟨A', c', hv, _⟩ := own_form (own_mono ho (Nat.zero_le _))
    injection hv
  have hrk : rows[k]? = some rows[k] := List.getElem?_eq_getElem (by omega)
  have hfk : fs[k]? = some fs[k] := List.getElem?_eq_getElem hk
  obtain ⟨r', he, hr'⟩ := hrel _ _ hfk (hrl k _ _ hrk hfk)
  obtain ⟨cur, hcur⟩ := own_heap ho
  have keep : ∀ r f, RelR w r f → RelR (w.setCell ⟨g, k * 5 + j, none⟩ u) r f := fun r f ⟨a, b, c, d, e⟩ => ⟨a, b, c.setRow hcur, d, e.setRow hcur⟩
  refine ⟨rows.set k r', by simpa using hr, ?_, ?_⟩
  · rw [List.length_set, flat_set rows k _ r' hrk j hj u he]
    exact (ho.stored _ _).1
  · intro i r f hi hf
    rw [List.getElem?_set] at hi hf
    by_cases e : k = i
    · subst e
      rw [if_pos rfl, if_pos (by omega)] at hi
      rw [if_pos rfl, if_pos hk] at hf
      obtain rfl := Option.some.inj hi
      obtain rfl := Option.some.inj hf
      exact keep _ _ hr'
    · rw [if_neg e] at hi hf
      exact keep _ _ (hrl i r f hi hf)
end Go.Proofs.Ytfdmmbalfjcehaa
