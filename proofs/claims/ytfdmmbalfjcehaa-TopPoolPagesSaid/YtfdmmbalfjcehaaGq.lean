/- What the operations make of pool and pages: steps and runs. -/
import Derived.Test.YtfdmmbalfjcehaaGp
namespace Go.Proofs.Ytfdmmbalfjcehaa
set_option linter.unusedVariables false
set_option linter.unusedSimpArgs false

def slotOf (o : Op) : Nat := o.slot.toNat % 9
def Pg (o : Op) (l : List UInt8) : Prop := l.length = 32 ∧ (o.period.toNat % 8 = 0 → l = List.replicate 32 o.value)
def pageAt (st : St) (s : Nat) : List UInt8 := st.pages.getD s []
/-- A page is stored under a slot. -/
def putF (st : St) (s : Nat) (l : List UInt8) : St :=
  if pageAt st s = [] ∧ (packF l).length ≤ 24 then
    match storeF st.fs s (packF l) st.next with
    | some fs' => ⟨fs', st.pages.set s l, st.next + 1⟩
    | none => st
  else st
/-- The page of a slot is taken out. -/
def outF (st : St) (s : Nat) : St :=
  if pageAt st s = [] then st else
    match st.fs[(findFrom st.fs 0 s).1.toNat]? with
    | some f => ⟨dropF st.fs (findFrom st.fs 0 s).1.toNat f (findFrom st.fs 0 s).2, st.pages.set s [], st.next⟩
    | none => st
def Step (o : Op) (st st' : St) : Prop :=
  (o.kind.toNat % 2 = 1 ∧ st' = outF st (slotOf o)) ∨ (o.kind.toNat % 2 = 0 ∧ ∃ l, Pg o l ∧ st' = putF st (slotOf o) l)
def st0 : St := ⟨[], List.replicate 9 [], 0⟩
inductive Runs : List Op → St → Prop
  | nil : Runs [] st0
  | snoc (l : List Op) (o : Op) (st st' : St) : Runs l st → Step o st st' → Runs (l ++ [o]) st'

theorem J0 : J st0 := by
  refine ⟨⟨by simp [st0], by simp [st0], by simp [st0], by simp [st0, items]⟩, by simp [st0], by simp [st0], ?_, by simp [st0, items], ?_, by rfl⟩
  · intro p hp
    exact .inl (List.eq_of_mem_replicate hp)
  · intro s p hp hne
    exact (hne (List.eq_of_mem_replicate (List.mem_of_getElem? hp))).elim
theorem J.pageAt_get {st : St} (h : J st) {s : Nat} (hs : s < 9) : st.pages[s]? = some (pageAt st s) := by
  unfold pageAt
  rw [List.getD_eq_getElem?_getD, List.getElem?_eq_getElem (by rw [h.len]; exact hs)]; rfl
theorem slotOf_lt (o : Op) : slotOf o < 9 := Nat.mod_lt _ (by decide)

theorem J.outF {st : St} (h : J st) {s : Nat} (hs : s < 9) : J (outF st s) := by
  unfold Ytfdmmbalfjcehaa.outF
  split
  · exact h
  · rename_i hp
    obtain ⟨i, f, j, hf, hj, hfind, hb, hd, hl⟩ := h.yes (h.pageAt_get hs) hp
    rw [hfind]
    simp only [Int.toNat_natCast, hf]
    exact h.drop (h.pageAt_get hs) hp hf hj hb hd
theorem J.putF {st : St} (h : J st) {s : Nat} (hs : s < 9) {l : List UInt8} (hl : l.length = 32) (hx : st.next < 256) : J (putF st s l) := by
  unfold Ytfdmmbalfjcehaa.putF
  split
  · rename_i hp
    split
    · rename_i fs' hst
      refine h.put ?_ hl hp.2 hx hst
      rw [h.pageAt_get hs, hp.1]
    · exact h
  · exact h
theorem outF_next (st : St) (s : Nat) : (outF st s).next = st.next := by
  unfold outF; split
  · rfl
  · split <;> rfl
theorem putF_next (st : St) (s : Nat) (l : List UInt8) : (putF st s l).next ≤ st.next + 1 := by
  unfold putF; split
  · split
    · exact Nat.le_refl _
    · omega
  · omega
theorem Runs.J {l : List Op} {st : St} (h : Runs l st) : l.length ≤ 200 → J st ∧ st.next ≤ l.length := by
  induction h with
  | nil => exact fun _ => ⟨J0, Nat.le_refl _⟩
  | snoc l o st st' hr hs ih =>
    intro hl
    rw [List.length_append, List.length_singleton] at hl
    obtain ⟨hj, hn⟩ := ih (by omega)
    rw [List.length_append, List.length_singleton]
    rcases hs with ⟨_, rfl⟩ | ⟨_, p, hp, rfl⟩
    · exact ⟨hj.outF (slotOf_lt o), by rw [outF_next]; omega⟩
    · exact ⟨hj.putF (slotOf_lt o) hp.1 (by omega), by have := putF_next st (slotOf o) p; omega⟩

/-! what a step needs to know -/
theorem take_snoc_get {ops : List Op} {k : Nat} {o : Op} (h : ops[k]? = some o) : ops.take (k + 1) = ops.take k ++ [o] := by
  obtain ⟨hk, rfl⟩ := List.getElem?_eq_some_iff.1 h
  rw [List.take_succ_eq_append_getElem hk]
theorem outF_nil {st : St} {s : Nat} (h : pageAt st s = []) : outF st s = st := by unfold outF; rw [if_pos h]
theorem outF_page {st : St} {s : Nat} (h : pageAt st s ≠ []) {i : Nat} {f : Fr} {j : Int} (hf : st.fs[i]? = some f) (hfind : findFrom st.fs 0 s = ((i : Int), j)) : outF st s = ⟨dropF st.fs i f j, st.pages.set s [], st.next⟩ := by
  unfold outF; rw [if_neg h, hfind]; simp only [Int.toNat_natCast, hf]
theorem putF_ok {st : St} {s : Nat} {l : List UInt8} (h : pageAt st s = []) (hk : (packF l).length ≤ 24) {fs' : List Fr} (hst : storeF st.fs s (packF l) st.next = some fs') : putF st s l = ⟨fs', st.pages.set s l, st.next + 1⟩ := by
  unfold putF; rw [if_pos ⟨h, hk⟩, hst]
theorem putF_long {st : St} {s : Nat} {l : List UInt8} (hk : ¬ (packF l).length ≤ 24) : putF st s l = st := by
  unfold putF; rw [if_neg fun h => hk h.2]
theorem putF_no {st : St} {s : Nat} {l : List UInt8} (h : storeF st.fs s (packF l) st.next = none) : putF st s l = st := by
  unfold putF; split
  · rw [h]
  · rfl
/-- Store succeeds just where Needs does not say -1 and the slot is empty. -/
theorem store_iff {st : St} (h : J st) {s : Nat} (hs : s < 9) {l : List UInt8} (hk : (packF l).length ≤ 24) :
    (storeF st.fs s (packF l) st.next).isSome = (decide (0 ≤ needsF st.fs (packF l).length) && decide (pageAt st s = [])) := by
  have hbd := fitTo_bd st.fs (packF l).length st.fs.length
  unfold needsF
  rw [if_neg (by omega)]
  unfold storeF
  by_cases hp : pageAt st s = []
  · have h1 := h.no (s := s) (by rw [h.pageAt_get hs, hp])
    rw [h1, if_pos (by rfl), decide_eq_true hp, Bool.and_true]
    by_cases hfit : fitTo st.fs (packF l).length st.fs.length = -1
    · rw [if_pos (by rw [hfit]; rfl), if_neg (c := fitTo st.fs (packF l).length st.fs.length ≠ -1) (fun h => h hfit)]
      by_cases h4 : st.fs.length < 4
      · rw [if_pos h4, if_pos h4]; rfl
      · rw [if_neg h4, if_neg h4]; rfl
    · obtain ⟨m, hm⟩ : ∃ m : Nat, fitTo st.fs (packF l).length st.fs.length = (m : Int) := ⟨(fitTo st.fs (packF l).length st.fs.length).toNat, by omega⟩
      obtain ⟨f, hfm, hsk⟩ := fitTo_get _ _ hm
      rw [if_neg (by simpa using hfit), if_pos hfit, hm, Int.toNat_natCast, hfm]
      rfl
  · obtain ⟨i, f, j, hf, hj, hfind, _⟩ := h.yes (h.pageAt_get hs) hp
    rw [decide_eq_false hp, Bool.and_false, hfind, if_neg]
    · rfl
    · simp
end Go.Proofs.Ytfdmmbalfjcehaa
