/- The small example: dPooling answers true. -/
import Derived.Test.YtfdmmbalfjcehaaGc
namespace Go.Proofs.Ytfdmmbalfjcehaa
open Go.RowKit
set_option linter.unusedVariables false
set_option linter.unusedSimpArgs false
attribute [local go_sem] lt_more lt_more2 lt_more3 lt_more4 lt_more5 lt_more6 lt_more7 lt_more8

theorem Runs.last {l : List Op} {o : Op} {st' : St} (h : Runs (l ++ [o]) st') : ∃ st, Runs l st ∧ Step o st st' := by
  generalize hL : l ++ [o] = L at h
  cases h with
  | nil => simp at hL
  | snoc l2 o2 st st'' hr hs =>
    obtain ⟨e1, e2⟩ := List.append_inj' hL rfl
    injection e2 with e2
    subst e1 e2
    exact ⟨st, hr, hs⟩
theorem Runs.first {st : St} (h : Runs [] st) : st = st0 := by
  generalize hL : ([] : List Op) = L at h
  cases h with
  | nil => rfl
  | snoc l2 o2 st st'' hr hs => simp at hL
def exOps : List Op := [⟨0, 2, 7, 0⟩, ⟨0, 3, 8, 0⟩, ⟨1, 2, 0, 0⟩]
def exSt : St := ⟨[⟨0, ⟨-1, []⟩, ⟨3, [0, 8]⟩⟩], [[], [], [], List.replicate 32 8, [], [], [], [], []], 2⟩
theorem ex1 : putF st0 2 (List.replicate 32 7) = ⟨[⟨0, ⟨2, [0, 7]⟩, ⟨-1, []⟩⟩], [[], [], List.replicate 32 7, [], [], [], [], [], []], 1⟩ := by rfl
theorem ex2 : putF ⟨[⟨0, ⟨2, [0, 7]⟩, ⟨-1, []⟩⟩], [[], [], List.replicate 32 7, [], [], [], [], [], []], 1⟩ 3 (List.replicate 32 8) = ⟨[⟨0, ⟨2, [0, 7]⟩, ⟨3, [0, 8]⟩⟩], [[], [], List.replicate 32 7, List.replicate 32 8, [], [], [], [], []], 2⟩ := by rfl
theorem ex3 : outF ⟨[⟨0, ⟨2, [0, 7]⟩, ⟨3, [0, 8]⟩⟩], [[], [], List.replicate 32 7, List.replicate 32 8, [], [], [], [], []], 2⟩ 2 = exSt := by rfl
theorem Step.store {o : Op} {st st' : St} (h : Step o st st') (hk : o.kind.toNat % 2 = 0) (hp : o.period.toNat % 8 = 0) : st' = putF st (slotOf o) (List.replicate 32 o.value) := by
  rcases h with ⟨h1, _⟩ | ⟨_, l, hl, e⟩
  · omega
  · rw [e, hl.2 hp]
theorem Step.load {o : Op} {st st' : St} (h : Step o st st') (hk : o.kind.toNat % 2 = 1) : st' = outF st (slotOf o) := by
  rcases h with ⟨_, e⟩ | ⟨h1, _⟩
  · exact e
  · omega
theorem ex_run {st : St} (h : Runs exOps st) : st = exSt := by
  obtain ⟨s2, h2, hs3⟩ := Runs.last (l := [⟨0, 2, 7, 0⟩, ⟨0, 3, 8, 0⟩]) (o := ⟨1, 2, 0, 0⟩) h
  obtain ⟨s1, h1, hs2⟩ := Runs.last (l := [⟨0, 2, 7, 0⟩]) (o := ⟨0, 3, 8, 0⟩) h2
  obtain ⟨s0, h0, hs1⟩ := Runs.last (l := []) (o := ⟨0, 2, 7, 0⟩) h1
  obtain rfl := h0.first
  have e1 := hs1.store rfl rfl
  change s1 = putF st0 2 (List.replicate 32 7) at e1
  rw [ex1] at e1
  subst e1
  have e2 := hs2.store rfl rfl
  change s2 = putF _ 3 (List.replicate 32 8) at e2
  rw [ex2] at e2
  subst e2
  have e3 := hs3.load rfl
  change st = outF _ 2 at e3
  rw [ex3] at e3
  exact e3
theorem ex_stored : stored exSt.pages = 1 := by rfl
theorem ex_used : (exSt.fs.length * 32 - waste exSt.fs : Int) = 2 := by rfl
theorem ex_saved : -(exSt.fs.length : Int) + count exSt.fs = 0 := by rfl
theorem ex_find : (!((findFrom exSt.fs 0 3).1 == -1)) = true := by rfl
end Go.Proofs.Ytfdmmbalfjcehaa
