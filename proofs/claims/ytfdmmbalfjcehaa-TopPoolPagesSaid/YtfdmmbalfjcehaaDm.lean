/- What an encoding stands for, and that what is packed stands for the page. No program in sight but for the definitions' places. -/
import Derived.Test.YtfdmmbalfjcehaaDa
namespace Go.Proofs.Ytfdmmbalfjcehaa
set_option linter.unusedVariables false
set_option linter.unusedSimpArgs false

/-- n bytes more, each the one o places back. -/
def copyN : Nat → Nat → List UInt8 → List UInt8
  | 0, _, out => out
  | n + 1, o, out => copyN n o (out ++ [out.getD (out.length - o) 0])
/-- Behind the bytes out, the tokens d make the page p. -/
inductive ME : List UInt8 → List UInt8 → List UInt8 → Prop
  | done (p : List UInt8) : p.length = 32 → ME p [] p
  | lit (out ls d p : List UInt8) (x : UInt8) : out.length + ls.length ≤ 32 → ls.length = x.toNat + 1 → ME (out ++ ls) d p → ME out (x :: (ls ++ d)) p
  | copy (out d p : List UInt8) (x y : UInt8) : 32 ≤ x.toNat → x.toNat ≤ 61 → 1 ≤ y.toNat → y.toNat ≤ out.length → out.length + (x.toNat - 29) ≤ 32 → ME (copyN (x.toNat - 29) y.toNat out) d p → ME out (x :: y :: d) p
theorem copyN_len (n o : Nat) (out : List UInt8) : (copyN n o out).length = out.length + n := by
  induction n generalizing out with
  | zero => rfl
  | succ n ih => rw [copyN, ih]; simp; omega
/-- The encodings that are kept. -/
inductive Enc : List UInt8 → List UInt8 → Prop
  | fill (b : UInt8) : Enc [0, b] (List.replicate 32 b)
  | runs (d p : List UInt8) : RE d p → p.length = 32 → Enc (1 :: d) p
  | mats (d p : List UInt8) : ME [] d p → p.length = 32 → Enc (2 :: d) p
theorem Enc.len {d p : List UInt8} (h : Enc d p) : p.length = 32 := by
  cases h with
  | fill b => simp
  | runs d p _ h => exact h
  | mats d p _ h => exact h

/-! runs -/
theorem runExt_eq (l : List UInt8) (i : Nat) : ∀ f n, (∀ j, j < n → l[i + j]? = l[i]?) → ∀ j, j < runExt l i f n → l[i + j]? = l[i]? := by
  intro f
  induction f with
  | zero => intro n h; exact h
  | succ f ih =>
    intro n h
    unfold runExt
    split
    · rename_i h2
      refine ih (n + 1) fun j hj => ?_
      by_cases e : j = n
      · rw [e]; exact h2.2
      · exact h j (by omega)
    · exact h
theorem runOf_eq {l : List UInt8} {i : Nat} : ∀ j, j < runOf l i → l[i + j]? = l[i]? :=
  runExt_eq l i 32 1 fun j hj => by rw [show j = 0 by omega]; rfl
theorem ofNat_small {n : Nat} (h : n < 256) : (UInt8.ofNat n).toNat = n := by rw [UInt8.toNat_ofNat']; omega
theorem drop_run {l : List UInt8} {i : Nat} (hi : i < l.length) : l.drop i = List.replicate (runOf l i) (l.getD i 0) ++ l.drop (i + runOf l i) := by
  apply List.ext_getElem?
  intro j
  rw [List.getElem?_drop, List.getElem?_append]
  by_cases hj : j < runOf l i
  · rw [if_pos (by simpa using hj), runOf_eq j hj, List.getElem?_replicate, if_pos hj, List.getD_eq_getElem?_getD, List.getElem?_eq_getElem hi]; rfl
  · rw [if_neg (by simpa using hj), List.length_replicate, List.getElem?_drop]; congr 1; omega
theorem runs_RE {l : List UInt8} (hl : l.length = 32) : ∀ f i, 32 < i + f → i ≤ 32 → RE (runsFrom l f i) (l.drop i) := by
  intro f
  induction f with
  | zero => intro i h h2; omega
  | succ f ih =>
    intro i h h2
    rw [runsFrom]
    by_cases hi : i < l.length
    · have hb := runOf_bd hi
      rw [if_pos hi, drop_run hi]
      have e := ofNat_small (n := runOf l i) (by omega)
      have := RE.run (UInt8.ofNat (runOf l i)) (l.getD i 0) _ _ (by omega) (ih (i + runOf l i) (by omega) (by omega))
      rw [e] at this
      exact this
    · rw [if_neg hi, List.drop_of_length_le (by omega)]
      exact RE.nil
theorem packRuns_Enc {l : List UInt8} (hl : l.length = 32) : Enc (packRunsF l) l :=
  Enc.runs _ _ (by simpa using runs_RE hl 33 0 (by omega) (by omega)) hl

/-! matches -/
theorem mAll_get {l : List UInt8} {a o : Nat} : ∀ n, mAll l a o n = true → ∀ j, j ≤ n → eqB l a o j = true := by
  intro n
  induction n with
  | zero => intro h j hj; rw [show j = 0 by omega]; exact h
  | succ n ih =>
    intro h j hj
    simp only [mAll, Bool.and_eq_true] at h
    by_cases e : j = n + 1
    · rw [e]; exact h.2
    · exact ih h.1 j (by omega)
theorem mExt_get {l : List UInt8} {a o : Nat} : ∀ f n, (∀ j, j < n → eqB l a o j = true) → ∀ j, j < mExt l a o f n → eqB l a o j = true := by
  intro f
  induction f with
  | zero => intro n h; exact h
  | succ f ih =>
    intro n h
    unfold mExt
    split
    · rename_i h2
      refine ih (n + 1) fun j hj => ?_
      by_cases e : j = n
      · rw [e]; exact h2
      · exact h j (by omega)
    · exact h
theorem mTo_get (l : List UInt8) (a : Nat) : ∀ o, (mTo l a o).1 = 0 ∨ (1 ≤ (mTo l a o).2 ∧ ∀ j, j < (mTo l a o).1 → eqB l a (mTo l a o).2 j = true) := by
  intro o
  induction o with
  | zero => exact .inl rfl
  | succ o ih =>
    unfold mTo
    split
    · rename_i h
      refine .inr ⟨by simp, ?_⟩
      exact mExt_get 33 _ fun j hj => mAll_get _ h j (by omega)
    · exact ih
theorem copyN_take {l : List UInt8} {o : Nat} (ho : 1 ≤ o) : ∀ n i, o ≤ i → i + n ≤ l.length → (∀ j, j < n → l[i + j]? = l[i + j - o]?) → copyN n o (l.take i) = l.take (i + n) := by
  intro n
  induction n with
  | zero => intro i _ _ _; rfl
  | succ n ih =>
    intro i hoi hin h
    have h0 := h 0 (by omega)
    rw [Nat.add_zero] at h0
    have e : (l.take i).getD ((l.take i).length - o) 0 = l[i] := by
      rw [List.getD_eq_getElem?_getD, List.length_take, Nat.min_eq_left (by omega), List.getElem?_take, if_pos (by omega), ← h0, List.getElem?_eq_getElem (by omega)]; rfl
    rw [copyN, e, ← List.take_succ_eq_append_getElem (by omega), ih (i + 1) (by omega) (by omega) fun j hj => by
      have := h (j + 1) (by omega)
      rw [show i + 1 + j = i + (j + 1) by omega]; exact this]
    congr 1; omega
theorem lits_ME {l : List UInt8} (hl : l.length = 32) {fi i : Nat} (h1 : fi ≤ i) (h2 : i ≤ 32) {d p : List UInt8} (h : ME (l.take i) d p) : ME (l.take fi) (lits l fi i ++ d) p := by
  unfold lits
  split
  · rename_i hlt
    have e : l.take i = l.take fi ++ (l.take i).drop fi := by
      have := (List.take_append_drop fi (l.take i)).symm
      rwa [List.take_take, Nat.min_eq_left h1] at this
    rw [List.cons_append]
    refine ME.lit _ _ _ _ _ ?_ ?_ (by rw [← e]; exact h)
    · simp; omega
    · rw [ofNat_small (by omega)]; simp; omega
  · obtain rfl : fi = i := by omega
    exact h
theorem pm_ME {l : List UInt8} (hl : l.length = 32) : ∀ f i fi, 32 < i + f → i ≤ 32 → fi ≤ i → ME (l.take fi) (pmFrom l f i fi) l := by
  have hend : ∀ fi, fi ≤ 32 → ME (l.take fi) (lits l fi l.length) l := by
    intro fi h
    have := lits_ME (d := []) (p := l) hl (fi := fi) (i := 32) h (by omega) (by rw [List.take_of_length_le (by omega)]; exact ME.done _ hl)
    rw [List.append_nil] at this
    rw [hl]; exact this
  intro f
  induction f with
  | zero => intro i fi h h2 h3; rw [pmFrom]; exact hend fi (by omega)
  | succ f ih =>
    intro i fi h h2 h3
    rw [pmFrom]
    by_cases hi : i < l.length
    · rw [if_pos hi]
      by_cases h4 : (matchF l i).1 < 3
      · rw [if_pos h4]; exact ih (i + 1) fi (by omega) (by omega) (by omega)
      · rw [if_neg h4, List.append_assoc]
        refine lits_ME hl h3 (by omega) ?_
        have hb := mTo_bd l i i (by omega)
        have hg := mTo_get l i i
        change i + (matchF l i).1 ≤ l.length ∧ (matchF l i).2 ≤ i at hb
        change (matchF l i).1 = 0 ∨ (1 ≤ (matchF l i).2 ∧ ∀ j, j < (matchF l i).1 → eqB l i (matchF l i).2 j = true) at hg
        rcases hg with hg | ⟨hg1, hg2⟩
        · omega
        have e1 := ofNat_small (n := (matchF l i).1 + 29) (by omega)
        have e2 := ofNat_small (n := (matchF l i).2) (by omega)
        have ih' := ih (i + (matchF l i).1) (i + (matchF l i).1) (by omega) (by omega) (by omega)
        refine ME.copy _ _ _ _ _ (by omega) (by omega) (by omega) ?_ ?_ ?_
        · rw [e2, List.length_take, Nat.min_eq_left (by omega)]; exact hb.2
        · rw [e1, List.length_take, Nat.min_eq_left (by omega)]; omega
        · rw [e1, e2, Nat.add_sub_cancel, copyN_take hg1 _ _ hb.2 hb.1 fun j hj => by
            have := hg2 j hj
            simp only [eqB, Bool.and_eq_true, decide_eq_true_eq, beq_iff_eq] at this
            exact this.2]
          exact ih'
    · rw [if_neg hi]; exact hend fi (by omega)
theorem packMatches_Enc {l : List UInt8} (hl : l.length = 32) : Enc (packMatchesF l) l :=
  Enc.mats _ _ (by simpa using pm_ME hl 33 0 0 (by omega) (by omega) (by omega)) hl

/-! the encoding that is kept -/
theorem bestF_pos (l : List UInt8) : 1 ≤ (bestF l).length := by
  unfold bestF
  split
  · simp [packMatchesF]
  · simp [packRunsF]
theorem packF_pos (l : List UInt8) : 1 ≤ (packF l).length := by
  unfold packF
  split
  · simp
  · split
    · simp
    · exact bestF_pos l
theorem filled_eq {l : List UInt8} (h : filledB l = true) : l = List.replicate 32 (l.getD 0 0) := by
  unfold filledB at h; exact eq_of_beq h
theorem packF_Enc {l : List UInt8} (hl : l.length = 32) (h : (packF l).length ≤ 24) : Enc (packF l) l := by
  unfold packF at h ⊢
  by_cases hf : filledB l = true
  · rw [if_pos hf]
    have := Enc.fill (l.getD 0 0)
    rwa [← filled_eq hf] at this
  · rw [if_neg hf] at h ⊢
    by_cases hb : 33 < (bestF l).length
    · rw [if_pos hb] at h; simp [hl] at h
    · rw [if_neg hb]
      unfold bestF
      split
      · exact packMatches_Enc hl
      · exact packRuns_Enc hl
end Go.Proofs.Ytfdmmbalfjcehaa
