/- Store and Drop of package pool in one contract each, over a valid pool. -/
import Derived.Test.YtfdmmbalfjcehaaPr
import Derived.Test.YtfdmmbalfjcehaaPo
import Derived.Test.YtfdmmbalfjcehaaPx
import Derived.Test.YtfdmmbalfjcehaaPv
import Derived.Test.YtfdmmbalfjcehaaPw
namespace Go.Proofs.Ytfdmmbalfjcehaa
open Go.RowKit
set_option linter.unusedVariables false
set_option linter.unusedSimpArgs false

theorem fitTo_get {fs : List Fr} {size : Int} : ∀ (k m : Nat), fitTo fs size k = (m : Int) → ∃ f, fs[m]? = some f ∧ skipB f size = false := by
  intro k
  induction k with
  | zero => intro m h; simp [fitTo] at h
  | succ k ih =>
    intro m h
    unfold fitTo at h
    split at h
    · exact ih m h
    · rename_i hs
      split at h
      · obtain rfl : k = m := by omega
        unfold skipAt at hs
        split at hs
        · rename_i f hf; exact ⟨f, hf, by simpa using hs⟩
        · simp at hs
      · exact ih m h
theorem find_get (s : Int) : ∀ (fs : List Fr) (k0 : Nat), (findFrom fs k0 s = (-1, -1) ∧ ∀ f ∈ fs, f.a.isB s = false ∧ f.b.isB s = false) ∨
    ∃ (i : Nat) (f : Fr), fs[i]? = some f ∧ ((findFrom fs k0 s = (((k0 + i : Nat) : Int), 0) ∧ f.a.isB s = true) ∨ (findFrom fs k0 s = (((k0 + i : Nat) : Int), 1) ∧ f.a.isB s = false ∧ f.b.isB s = true)) := by
  intro fs
  induction fs with
  | nil => intro k0; exact .inl ⟨rfl, by simp⟩
  | cons f r ih =>
    intro k0
    unfold findFrom
    cases ha : f.a.isB s with
    | true => exact .inr ⟨0, f, rfl, .inl ⟨by simp, ha⟩⟩
    | false =>
      cases hb : f.b.isB s with
      | true => exact .inr ⟨0, f, rfl, .inr ⟨by simp, ha, hb⟩⟩
      | false =>
        simp only [Bool.false_eq_true, if_false]
        rcases ih (k0 + 1) with ⟨h1, h2⟩ | ⟨i, g, hg, h⟩
        · refine .inl ⟨h1, fun x hx => ?_⟩
          rcases List.mem_cons.1 hx with rfl | hx
          · exact ⟨ha, hb⟩
          · exact h2 x hx
        · refine .inr ⟨i + 1, g, by simpa using hg, ?_⟩
          rw [show k0 + (i + 1) = k0 + 1 + i by omega]
          exact h

def addAt (f : Fr) (x : It) : Fr := if absB f.a.slot f.a.data.length then { f with a := x } else { f with b := x }
/-- The frames behind Store; none where it fails. -/
def storeF (fs : List Fr) (slot : Int) (data : List UInt8) (frame : Int) : Option (List Fr) :=
  if (findFrom fs 0 slot).1 == -1 then
    (if fitTo fs data.length fs.length == -1 then (if fs.length < 4 then some (fs ++ [⟨frame, ⟨slot, data⟩, ⟨-1, []⟩⟩]) else none)
     else (fs[(fitTo fs data.length fs.length).toNat]?).map fun f => fs.set (fitTo fs data.length fs.length).toNat (addAt f ⟨slot, data⟩))
  else none

theorem ret_tu {W : World} {x y z x' y' z' : Value} (h : x = x') (h2 : y = y') (h3 : z = z') : Ending.returned (.tuple #[x, y, z]) = .returned (.tuple #[x', y', z']) := by rw [h, h2, h3]

theorem pstore_ok (w : World) (v dv : Value) (fs fs' : List Fr) (slot frame : Int) (data : List UInt8) (hv : FrsV w v fs) (hf : Valid fs) (hd : ByV w dv data) (s1 : 0 ≤ slot) (s2 : slot < 64) (l1 : 1 ≤ data.length) (l2 : data.length ≤ 32)
    (hx : ∀ f ∈ fs, f.num < frame) (x0 : 0 ≤ frame) (x1 : frame < 256) (h : storeF fs slot data frame = some fs') :
    Calls Try.prog 33 #[.agg #[.int .i64 4, v], .int .i64 slot, dv, .int .i64 frame] w fun e w' => (∃ (v' : Value) (r : Int), e = .returned (.tuple #[.agg #[.int .i64 4, v'], .int .i64 r, .int .i64 0]) ∧ FrsV w' v' fs') ∧ Below w.heap.size w w' := by
  unfold storeF at h
  split at h
  · rename_i hn
    have hn' : findFrom fs 0 slot = (-1, -1) := by
      rcases find_get slot fs 0 with ⟨h1, _⟩ | ⟨i, f, _, ⟨h1, _⟩ | ⟨h1, _⟩⟩
      · exact h1
      · rw [h1] at hn; simp at hn
      · rw [h1] at hn; simp at hn
    split at h
    · rename_i hfit
      split at h
      · rename_i h4
        injection h with h
        subst h
        refine (store_new w v dv fs slot frame data hv hf hd s1 s2 l1 l2 hn' (by simpa using hfit) h4 hx x0 x1).mono ?_
        rintro e w' ⟨⟨v', he, ho⟩, hb⟩
        exact ⟨⟨v', _, he, ho.toV⟩, hb⟩
      · cases h
    · rename_i hfit
      have hbd := fitTo_bd fs data.length fs.length
      obtain ⟨m, hm⟩ : ∃ m : Nat, fitTo fs data.length fs.length = (m : Int) := ⟨(fitTo fs data.length fs.length).toNat, by
        have : ¬ fitTo fs data.length fs.length = -1 := by simpa using hfit
        omega⟩
      obtain ⟨f, hfm, hsk⟩ := fitTo_get _ _ hm
      rw [hm, Int.toNat_natCast, hfm] at h
      injection h with h
      subst h
      cases ha : absB f.a.slot f.a.data.length with
      | true =>
        refine (store_inA w v dv fs slot frame data hv hf hd s1 s2 l1 l2 hn' m f hfm ha hm).mono ?_
        rintro e w' ⟨⟨v', he, ho⟩, hb⟩
        refine ⟨⟨v', _, he, ?_⟩, hb⟩
        show FrsV w' v' (fs.set m (addAt f ⟨slot, data⟩))
        unfold addAt; rw [if_pos ha]; exact ho.toV
      | false =>
        have hb2 : absB f.b.slot f.b.data.length = true := by
          unfold skipB at hsk
          rw [ha] at hsk
          cases hb : absB f.b.slot f.b.data.length with
          | true => rfl
          | false => rw [hb] at hsk; simp at hsk
        refine (store_inB w v dv fs slot frame data hv hf hd s1 s2 l1 l2 hn' m f hfm ha hb2 hm).mono ?_
        rintro e w' ⟨⟨v', he, ho⟩, hb⟩
        refine ⟨⟨v', _, he, ?_⟩, hb⟩
        show FrsV w' v' (fs.set m (addAt f ⟨slot, data⟩))
        unfold addAt; rw [if_neg (by rw [ha]; simp)]; exact ho.toV
  · cases h

theorem pstore_no (w : World) (v dv : Value) (fs : List Fr) (slot frame : Int) (data : List UInt8) (hv : FrsV w v fs) (hf : Valid fs) (hd : ByV w dv data) (s1 : 0 ≤ slot) (s2 : slot < 64) (l1 : 1 ≤ data.length) (l2 : data.length ≤ 32)
    (h : storeF fs slot data frame = none) :
    Calls Try.prog 33 #[.agg #[.int .i64 4, v], .int .i64 slot, dv, .int .i64 frame] w fun e w' => (∃ r : Int, e = .returned (.tuple #[.agg #[.int .i64 0, .slice none 0 0], .int .i64 0, .int .i64 r]) ∧ (r != 0) = true) ∧ Below w.heap.size w w' := by
  unfold storeF at h
  split at h
  · rename_i hn
    have hn' : findFrom fs 0 slot = (-1, -1) := by
      rcases find_get slot fs 0 with ⟨h1, _⟩ | ⟨i, f, _, ⟨h1, _⟩ | ⟨h1, _⟩⟩
      · exact h1
      · rw [h1] at hn; simp at hn
      · rw [h1] at hn; simp at hn
    split at h
    · rename_i hfit
      split at h
      · cases h
      · rename_i h4
        refine (store_full w v dv fs slot frame data hv hf hd s1 s2 l1 l2 hn' (by simpa using hfit) (by have := hf.1; omega)).mono ?_
        rintro e w' ⟨he, hb⟩
        exact ⟨⟨_, he, by decide⟩, hb⟩
    · rename_i hfit
      have hbd := fitTo_bd fs data.length fs.length
      obtain ⟨m, hm⟩ : ∃ m : Nat, fitTo fs data.length fs.length = (m : Int) := ⟨(fitTo fs data.length fs.length).toNat, by
        have : ¬ fitTo fs data.length fs.length = -1 := by simpa using hfit
        omega⟩
      obtain ⟨f, hfm, hsk⟩ := fitTo_get _ _ hm
      rw [hm, Int.toNat_natCast, hfm] at h
      cases h
  · rename_i hn
    rcases find_get slot fs 0 with ⟨h1, _⟩ | ⟨i, f, _, ⟨h1, _⟩ | ⟨h1, _⟩⟩
    · rw [h1] at hn; simp at hn
    · refine (store_exist w v dv fs slot frame data hv hf hd s1 s2 l1 l2 (0 + i) 0 h1).mono ?_
      rintro e w' ⟨he, hb⟩
      exact ⟨⟨_, he, by decide⟩, hb⟩
    · refine (store_exist w v dv fs slot frame data hv hf hd s1 s2 l1 l2 (0 + i) 1 h1).mono ?_
      rintro e w' ⟨he, hb⟩
      exact ⟨⟨_, he, by decide⟩, hb⟩

/-- The frames behind Drop of the item j of frame i. -/
def dropF (fs : List Fr) (i : Nat) (f : Fr) (j : Int) : List Fr :=
  if j = 0 then (if absB f.b.slot f.b.data.length then fs.eraseIdx i else fs.set i { f with a := ⟨-1, []⟩ })
  else (if absB f.a.slot f.a.data.length then fs.eraseIdx i else fs.set i { f with b := ⟨-1, []⟩ })
theorem pdrop_any (w : World) (v : Value) (fs : List Fr) (s : Int) (hv : FrsV w v fs) (hf : Valid fs) (i : Nat) (f : Fr) (j : Int) (hi : fs[i]? = some f) (hj : j = 0 ∨ j = 1) (hn : findFrom fs 0 s = ((i : Int), j)) :
    Calls Try.prog 27 #[.agg #[.int .i64 4, v], .int .i64 s] w fun e w' => (∃ (v' : Value) (r : Int), e = .returned (.tuple #[.agg #[.int .i64 4, v'], .int .i64 r, .int .i64 0]) ∧ FrsV w' v' (dropF fs i f j)) ∧ Below w.heap.size w w' := by
  rcases hj with rfl | rfl
  · unfold dropF
    rw [if_pos rfl]
    cases ha : absB f.b.slot f.b.data.length with
    | true =>
      refine (drop_goneA w v fs s hv hf i f hi hn ha).mono ?_
      rintro e w' ⟨⟨v', r, he, ho⟩, hb⟩
      exact ⟨⟨v', r, he, ho.toV⟩, hb⟩
    | false =>
      refine (drop_keepA w v fs s hv hf i f hi hn ha).mono ?_
      rintro e w' ⟨⟨v', r, he, ho⟩, hb⟩
      exact ⟨⟨v', r, he, ho.toV⟩, hb⟩
  · unfold dropF
    rw [if_neg (by decide)]
    cases ha : absB f.a.slot f.a.data.length with
    | true =>
      refine (drop_goneB w v fs s hv hf i f hi hn ha).mono ?_
      rintro e w' ⟨⟨v', r, he, ho⟩, hb⟩
      exact ⟨⟨v', r, he, ho.toV⟩, hb⟩
    | false =>
      refine (drop_keepB w v fs s hv hf i f hi hn ha).mono ?_
      rintro e w' ⟨⟨v', r, he, ho⟩, hb⟩
      exact ⟨⟨v', r, he, ho.toV⟩, hb⟩
end Go.Proofs.Ytfdmmbalfjcehaa
