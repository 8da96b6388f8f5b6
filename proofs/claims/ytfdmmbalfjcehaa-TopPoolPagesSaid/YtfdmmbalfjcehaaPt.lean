/- Contract of slices.Delete of one frame. -/
import Derived.Test.YtfdmmbalfjcehaaPq
import Derived.Deep.RegionLaw
import Derived.Lib.SliceRun
namespace Go.Proofs.Ytfdmmbalfjcehaa
open Go.RowKit
set_option linter.unusedVariables false
set_option linter.unusedSimpArgs false
attribute [local go_sem] lt_more lt_more2 lt_more3 lt_more4 lt_more5 lt_more6 lt_more7 lt_more8 idx0 idx1

def setL : List Value → Nat → List Value → List Value
  | xs, _, [] => xs
  | xs, o, v :: r => setL (xs.set o v) (o + 1) r
theorem setL_eq (vs : List Value) : ∀ (xs : List Value) (o : Nat), o + vs.length ≤ xs.length → setL xs o vs = xs.take o ++ vs ++ xs.drop (o + vs.length) := by
  induction vs with
  | nil => intro xs o h; simp [setL]
  | cons v r ih =>
    intro xs o h
    simp at h
    rw [setL, ih _ _ (by simp; omega)]
    apply List.ext_getElem?
    intro j
    simp only [List.getElem?_append, List.length_append, List.length_take, List.length_set, List.length_cons, List.getElem?_take, List.getElem?_drop, List.getElem?_set, List.getElem?_cons]
    by_cases h1 : j < o
    · simp [h1, show min (o + 1) xs.length = o + 1 by omega, show min o xs.length = o by omega, show j < o + 1 + r.length by omega, show j < o + (r.length + 1) by omega, show j < o + 1 by omega, show ¬ o = j by omega]
    · by_cases h2 : j = o
      · subst h2
        simp [show min (j + 1) xs.length = j + 1 by omega, show min j xs.length = j by omega, show j < xs.length by omega]
        intro hh; omega
      · by_cases h3 : j < o + 1 + r.length
        · simp [show min (o + 1) xs.length = o + 1 by omega, show min o xs.length = o by omega, h3, show j < o + (r.length + 1) by omega, show ¬ j < o + 1 by omega, h1, show ¬ j - o = 0 by omega, show j - (o + 1) = j - o - 1 by omega]
        · simp [show min (o + 1) xs.length = o + 1 by omega, show min o xs.length = o by omega, h3, show ¬ j < o + (r.length + 1) by omega]
          rw [if_neg (by omega), show o + 1 + r.length + (j - (o + 1 + r.length)) = o + (r.length + 1) + (j - (o + (r.length + 1))) by omega]
theorem own_setCells {base e size n cap g : Nat} (vs : List Value) : ∀ (w : World) (xs : List Value) (o : Nat), w.ownsRow base e size (.slice (some ⟨g, 0, none⟩) n cap) n xs →
    (w.setCells g o vs).ownsRow base e size (.slice (some ⟨g, 0, none⟩) n cap) n (setL xs o vs) ∧ w.grownBy (w.setCells g o vs) (some g) := by
  induction vs with
  | nil => intro w xs o h; exact ⟨h, World.grownBy.refl _ _⟩
  | cons v r ih =>
    intro w xs o h
    obtain ⟨h1, h2⟩ := h.stored o v
    obtain ⟨h3, h4⟩ := ih _ _ (o + 1) h1
    exact ⟨h3, ⟨h4.os.trans h2.os, h4.tape.trans h2.tape, h4.output.trans h2.output, Nat.le_trans h2.size h4.size, fun k hk hne => (h4.block k (Nat.lt_of_lt_of_le hk h2.size) hne).trans (h2.block k hk hne)⟩⟩
theorem own_less {w : World} {base e size n m cap g : Nat} {xs : List Value} (h : w.ownsRow base e size (.slice (some ⟨g, 0, none⟩) n cap) n xs) (hm : m ≤ n) : w.ownsRow base e size (.slice (some ⟨g, 0, none⟩) m cap) m (xs.take (m * size)) := by
  have hms : m * size ≤ n * size := Nat.mul_le_mul_right _ hm
  refine ⟨by rw [List.length_take, h.1]; omega, ?_⟩
  rcases h.2 with ⟨hn, _⟩ | ⟨g', cap', cur', hv, hb, hh, r1, r2, r3, r4⟩
  · cases hn
  · injection hv with hv hv2 hv3; injection hv with hv; injection hv with hv; subst hv; subst hv3
    exact .inr ⟨g, cap, cur', rfl, hb, hh, by omega, r2, r3, by rw [← r4, List.take_take]; congr 1; omega⟩

set_option maxHeartbeats 4000000 in
set_option maxRecDepth 1000000 in
theorem delete_at (w : World) (base g n c i : Nat) (xs : List Value) (ho : w.ownsRow base 55 5 (.slice (some ⟨g, 0, none⟩) n c) n xs) (hin : i < n) (hn : n ≤ 1000) (h1 : ∀ u ∈ xs, u.oneCell' = true) :
    Calls Try.prog 44 #[.slice (some ⟨g, 0, none⟩) n c, .int .i64 i, .int .i64 (i + 1)] w fun e w' => e = .returned (.slice (some ⟨g, 0, none⟩) (i + (n - (i + 1))) c) ∧
      w'.ownsRow base 55 5 (.slice (some ⟨g, 0, none⟩) (i + (n - (i + 1))) c) (i + (n - (i + 1))) (xs.take (i * 5) ++ xs.drop ((i + 1) * 5)) ∧ w.grownBy w' (some g) := by
  obtain ⟨i0, hi0, hz0, hz1, hz2⟩ := info_parts info55
  have hxl := ho.1
  obtain ⟨A', c', hv, hnc, hcm, _, hs⟩ := own_form (own_mono ho (Nat.zero_le _))
  injection hv with hv1 _ hv3
  subst hv1 hv3
  obtain ⟨g', hgg, hgl, ⟨cur, hcur, hcs⟩, hcell⟩ := hs _ rfl
  injection hgg with hgg; subst hgg
  have hfz : ∀ j, w.frozen? ⟨g, j, none⟩ = false := fun j => by simp [World.frozen?, hcur]
  obtain ⟨news, hnews⟩ : ∃ news, news = xs.drop ((i + 1) * 5) := ⟨_, rfl⟩
  have hlen : news.length = (n - (i + 1)) * 5 := by rw [hnews, List.length_drop, hxl]; omega
  have hget : ∀ t u, news[t]? = some u → w.cell? ⟨g, (i + 1) * 5 + t, none⟩ = some u := fun t u hu => hcell _ u (by rw [← hu, hnews, List.getElem?_drop])
  obtain ⟨A, hA, hsrc⟩ : ∃ A : Addr, (if c = i + 1 then some (⟨g, 0, none⟩ : Addr) else some ⟨g, (i + 1) * 5, none⟩) = some A ∧ Hid (∀ t u, news[t]? = some u → w.drew.cell? (A.add t) = some u) := by
    by_cases h : c = i + 1
    · refine ⟨⟨g, 0, none⟩, by simp [h], fun t u hu => ?_⟩
      have h0 : news.length = 0 := by rw [hlen]; omega
      rw [List.length_eq_zero_iff.1 h0] at hu
      simp at hu
    · refine ⟨⟨g, (i + 1) * 5, none⟩, by simp [h], fun t u hu => ?_⟩
      rw [Addr.add_lit]
      exact hget t u hu
  have s1 : Hid (news.length = (n - (i + 1)) * 5) := hlen
  have s2 : Hid (∀ u ∈ news, u.oneCell' = true) := fun u hu => h1 u (List.mem_of_mem_drop (by rw [hnews] at hu; exact hu))
  have hsome : ∀ j, j < n * 5 → (w.cell? ⟨g, j, none⟩).isSome = true := fun j hj => by
    rw [hcell j xs[j] (List.getElem?_eq_getElem (by omega))]; rfl
  have s3 : Hid (∀ t, t < news.length → (w.drew.cell? ⟨g, 0 + i * 5 + t, none⟩).isSome = true ∧ w.drew.frozen? ⟨g, 0 + i * 5 + t, none⟩ = false) := fun t ht =>
    ⟨hsome _ (by omega), hfz _⟩
  obtain ⟨W1, hW1⟩ : ∃ W1, W1 = w.drew.setCells g (0 + i * 5) news := ⟨_, rfl⟩
  obtain ⟨oW, gW⟩ := own_setCells (base := base) (e := 55) (size := 5) (cap := c) news w.drew xs (0 + i * 5) ho
  rw [← hW1] at oW gW
  obtain ⟨_, _, hvW, _, _, _, hsW⟩ := own_form (own_mono oW (Nat.zero_le _))
  injection hvW with hv1 _ hv3
  subst hv1 hv3
  obtain ⟨g', hgg, _, ⟨curW, hcurW, hcsW⟩, _⟩ := hsW _ rfl
  injection hgg with hgg; subst hgg
  have hcl : ∀ ty, (Builtin.clear_ #[24] ty #[.slice (some ⟨g, (i + (n - (i + 1))) * 5, none⟩) (n - (i + (n - (i + 1)))) (c - (i + (n - (i + 1))))]).run Try.prog W1 =
      .ok (.tuple #[]) (W1.setCells g ((i + (n - (i + 1))) * 5) [.int .i64 0, .int .i64 0, .slice none 0 0, .int .i64 0, .slice none 0 0]) := fun ty => by
    have hst := run_storeCells_cells (P := Try.prog) g ((i + (n - (i + 1))) * 5) [.int .i64 0, .int .i64 0, .slice none 0 0, .int .i64 0, .slice none 0 0] 0 W1
      (fun j hj => by simp at hj; rw [cell_of_row W1 g _ curW 55 (0, 0) hcurW]; simp; omega) (fun j hj => by simp [World.frozen?, hcurW]) (by simp [Value.oneCell'])
    simp only [Nat.add_zero] at hst
    have hv : ∀ w, (zeroValue 55).run Try.prog w = .ok (.agg #[.int .i64 0, .int .i64 0, .slice none 0 0, .int .i64 0, .slice none 0 0]) w := fun w => by kernel_rfl
    have hzc : (Builtin.zeroCells (Value.agg #[.int .i64 0, .int .i64 0, .slice none 0 0, .int .i64 0, .slice none 0 0]).cells 1).toList = [.int .i64 0, .int .i64 0, .slice none 0 0, .int .i64 0, .slice none 0 0] := by kernel_rfl
    rw [show n - (i + (n - (i + 1))) = 1 by omega]
    simp [Builtin.clear_, run_underlying Try.underlying24, hv, hzc, hst]
  have hOW := Lib.hid oW
  have hGW := Lib.hid gW
  have hW : Hid (W1 = w.drew.setCells g (0 + i * 5) news) := hW1
  have hX := Lib.hid hxl
  have hL := Lib.hid hlen
  have hNw := Lib.hid hnews
  have hic : i ≤ c := by omega
  have hic1 : i + 1 ≤ c := by omega
  have hin1 : i + 1 ≤ n := by omega
  have hii : ((i : Int) == (i : Int) + 1) = false := by simp; omega
  have hp0 : (0 : Int) ≤ (i : Int) + 1 := by omega
  have hp1 : (i : Int) + 1 ≤ (n : Int) := by omega
  have hp2 : ((i : Int) + 1).toNat = i + 1 := by omega
  have hcne : ¬ c = i + (n - (i + 1)) := by omega
  clear hW1 hnews hlen hget hxl oW gW hs hsW hcell hsome hfz ho h1 hcurW hcsW hcs hcur
  go_enter Try.func44, Try.ntmps44
  go_wp2_with fail
  go_region_law (refine step_append_room rfl (.tmp 22) (.tmp 25) 24 rfl 55 i0 5 Try.underlying24 hi0 hz1 g 0 i c (by simp [Act.eval, Act.put]) A (n - (i + 1)) (c - (i + 1)) news (by simp [Act.eval, Act.put]) s1.out hsrc.out s2.out (by omega) s3.out ?_; rw [← hW.out])
  go_wp2
  go_ret
  obtain ⟨o2, g2⟩ := own_setCells (base := base) (e := 55) (size := 5) (cap := c) [.int .i64 0, .int .i64 0, .slice none 0 0, .int .i64 0, .slice none 0 0] W1 _ ((i + (n - (i + 1))) * 5) hOW.out
  have hm : i + (n - (i + 1)) ≤ n := by omega
  have hlist : (setL (setL xs (0 + i * 5) news) ((i + (n - (i + 1))) * 5) [.int .i64 0, .int .i64 0, .slice none 0 0, .int .i64 0, .slice none 0 0]).take ((i + (n - (i + 1))) * 5) = xs.take (i * 5) ++ xs.drop ((i + 1) * 5) := by
    have hx := hX.out
    have hl := hL.out
    rw [Nat.zero_add]
    have e1 := setL_eq news xs (i * 5) (by omega)
    have l1 : (setL xs (i * 5) news).length = n * 5 := by
      rw [e1]; simp only [List.length_append, List.length_take, List.length_drop]; omega
    rw [setL_eq _ _ _ (by rw [l1]; simp only [List.length_cons, List.length_nil]; omega), List.append_assoc, List.take_append_of_le_length (by rw [List.length_take, l1]; omega), List.take_take, Nat.min_self, e1, List.take_append_of_le_length (by simp only [List.length_append, List.length_take]; omega)]
    rw [List.take_of_length_le (by simp only [List.length_append, List.length_take]; omega), hNw.out]
  refine ⟨rfl, ?_, ?_⟩
  · have h3 := own_less o2 hm
    rw [hlist] at h3
    exact h3
  · exact ⟨g2.os.trans hGW.out.os, g2.tape.trans hGW.out.tape, g2.output.trans hGW.out.output, Nat.le_trans hGW.out.size g2.size, fun k hk hne => (g2.block k (Nat.lt_of_lt_of_le hk hGW.out.size) hne).trans (hGW.out.block k hk hne)⟩

theorem flat_erase (rows : List Rw) (i : Nat) : (rows.eraseIdx i).flatMap Rw.cells = (rows.flatMap Rw.cells).take (i * 5) ++ (rows.flatMap Rw.cells).drop ((i + 1) * 5) := by
  induction rows generalizing i with
  | nil => simp
  | cons r rs ih =>
    cases i with
    | zero =>
      rw [List.eraseIdx_cons_zero, List.flatMap_cons, List.drop_append_of_le_length (by simp [Rw.cells])]
      simp [Rw.cells]
    | succ i =>
      rw [List.eraseIdx_cons_succ, List.flatMap_cons, List.flatMap_cons, ih i]
      rw [List.take_append, List.drop_append]
      have hl : r.cells.length = 5 := rfl
      rw [hl, List.take_of_length_le (l := r.cells) (by rw [hl]; omega), List.drop_of_length_le (l := r.cells) (by rw [hl]; omega), List.append_assoc, List.nil_append]
      rw [show (i + 1) * 5 - 5 = i * 5 by omega, show (i + 1 + 1) * 5 - 5 = (i + 1) * 5 by omega]

theorem delete_fr (w : World) (base g n c i : Nat) (fs : List Fr) (h : FrsB w base (.slice (some ⟨g, 0, none⟩) n c) fs) (hin : i < fs.length) (hn : fs.length ≤ 1000) (hb : base ≤ w.heap.size) :
    Calls Try.prog 44 #[.slice (some ⟨g, 0, none⟩) n c, .int .i64 i, .int .i64 (i + 1)] w fun e w' => e = .returned (.slice (some ⟨g, 0, none⟩) (i + (n - (i + 1))) c) ∧
      FrsB w' base (.slice (some ⟨g, 0, none⟩) (i + (n - (i + 1))) c) (fs.eraseIdx i) ∧ (∀ B u v, Two w B u v → Two w' B u v) ∧ Below base w w' := by
  have h0 := h
  obtain ⟨hgb, cur, hcur⟩ := h0.heap
  obtain ⟨rows, hr, ho, hrl⟩ := h
  obtain rfl : n = fs.length := by
    obtain ⟨A', c', hv, _⟩ := own_form (own_mono ho (Nat.zero_le _))
    injection hv
  have hone : ∀ u ∈ rows.flatMap Rw.cells, u.oneCell' = true := flat_one (fun r hrm => by
    obtain ⟨k, hk⟩ := List.getElem?_of_mem hrm
    have hkl : k < fs.length := by have := (List.getElem?_eq_some_iff.1 hk).1; omega
    exact (hrl k r _ hk (List.getElem?_eq_getElem hkl)).one_)
  refine (delete_at w base g fs.length c i _ ho hin hn hone).mono ?_
  rintro e w' ⟨rfl, ho', hg⟩
  have keep : ∀ r f, RelR w r f → RelR w' r f := fun r f ⟨a, b, c, d, e⟩ => ⟨a, b, c.grown hg (fun k hk => by obtain rfl := Option.some.inj hk; exact ⟨_, _, hcur⟩), d, e.grown hg (fun k hk => by obtain rfl := Option.some.inj hk; exact ⟨_, _, hcur⟩)⟩
  refine ⟨rfl, ⟨rows.eraseIdx i, by rw [List.length_eraseIdx, List.length_eraseIdx, hr], ?_, ?_⟩, ?_, ?_⟩
  · rw [flat_erase, List.length_eraseIdx, if_pos hin, show fs.length - 1 = i + (fs.length - (i + 1)) by omega]
    exact ho'
  · intro k r f h1 h2
    rw [List.getElem?_eraseIdx] at h1 h2
    by_cases e : k < i
    · rw [if_pos e] at h1 h2; exact keep _ _ (hrl k r f h1 h2)
    · rw [if_neg e] at h1 h2; exact keep _ _ (hrl (k + 1) r f h1 h2)
  · intro B u v hT
    exact (hg.block B hT.lt (fun e => hT.ne hcur (Option.some.inj e))).trans hT
  · exact (Below.refl base w).grown hg hb (fun k hk => by obtain rfl := Option.some.inj hk; exact hgb)
end Go.Proofs.Ytfdmmbalfjcehaa
