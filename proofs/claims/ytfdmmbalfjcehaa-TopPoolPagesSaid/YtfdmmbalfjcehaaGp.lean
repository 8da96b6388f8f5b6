/- The plain law of the pool's state: what a step does to frames and pages, and what then still holds. -/
import Derived.Test.YtfdmmbalfjcehaaHc
import Derived.Test.YtfdmmbalfjcehaaHb
namespace Go.Proofs.Ytfdmmbalfjcehaa
set_option linter.unusedVariables false
set_option linter.unusedSimpArgs false

structure Op where
  kind : UInt8
  slot : UInt8
  value : UInt8
  period : UInt8
structure St where
  fs : List Fr
  pages : List (List UInt8)
  next : Nat
def encLen (p : List UInt8) : Nat := if p = [] then 0 else (packF p).length
def total (fs : List Fr) : Nat := ((items fs).map fun x => x.data.length).sum

/-- What holds of pool and pages between two operations. -/
structure J (st : St) : Prop where
  valid : Valid st.fs
  nums : ∀ f ∈ st.fs, f.num < st.next
  len : st.pages.length = 9
  page : ∀ p ∈ st.pages, p = [] ∨ p.length = 32
  held : ∀ x ∈ items st.fs, ∃ (s : Nat) (p : List UInt8), st.pages[s]? = some p ∧ x.slot = (s : Int) ∧ p.length = 32 ∧ x.data = packF p ∧ (packF p).length ≤ 24
  all : ∀ (s : Nat) (p : List UInt8), st.pages[s]? = some p → p ≠ [] → ∃ x ∈ items st.fs, x.slot = (s : Int)
  sum : total st.fs = (st.pages.map encLen).sum

/-! items -/
theorem absB_iff (x : It) : absB x.slot x.data.length = true ↔ x.absent := by
  unfold absB It.absent; simp
theorem isB_iff (x : It) (s : Int) : x.isB s = true ↔ ¬ x.absent ∧ x.slot = s := by
  unfold It.isB
  rw [Bool.and_eq_true, Bool.not_eq_true', ← Bool.not_eq_true, absB_iff]; simp
theorem mem_items {x : It} {fs : List Fr} : x ∈ items fs ↔ ∃ f ∈ fs, (x = f.a ∨ x = f.b) ∧ ¬ x.absent := by
  unfold items
  rw [List.mem_filter, List.mem_flatMap]
  constructor
  · rintro ⟨⟨f, hf, hx⟩, h⟩
    exact ⟨f, hf, by simpa [Fr.its] using hx, by simpa using h⟩
  · rintro ⟨f, hf, hx, h⟩
    exact ⟨⟨f, hf, by simpa [Fr.its] using hx⟩, by simpa using h⟩
theorem itAt_mem {f : Fr} {j : Int} : itAt f j = f.a ∨ itAt f j = f.b := by
  unfold itAt; split
  · exact .inl rfl
  · exact .inr rfl

theorem J.no {st : St} (h : J st) {s : Nat} (hs : st.pages[s]? = some []) : findFrom st.fs 0 (s : Int) = (-1, -1) := by
  have key : ∀ (x : It) (f : Fr), f ∈ st.fs → (x = f.a ∨ x = f.b) → x.isB (s : Int) = true → False := by
    intro x f hf hx hb
    obtain ⟨h1, h2⟩ := (isB_iff x _).1 hb
    obtain ⟨s', p, hp, hsl, hpl, _⟩ := h.held x (mem_items.2 ⟨f, hf, hx, h1⟩)
    obtain rfl : s' = s := by omega
    rw [hs] at hp
    injection hp with hp
    subst hp
    simp at hpl
  rcases find_get (s : Int) st.fs 0 with ⟨h1, _⟩ | ⟨i, f, hf, ⟨h1, h2⟩ | ⟨h1, _, h2⟩⟩
  · exact h1
  · exact (key f.a f (List.mem_of_getElem? hf) (.inl rfl) h2).elim
  · exact (key f.b f (List.mem_of_getElem? hf) (.inr rfl) h2).elim

theorem J.yes {st : St} (h : J st) {s : Nat} {p : List UInt8} (hs : st.pages[s]? = some p) (hp : p ≠ []) :
    ∃ (i : Nat) (f : Fr) (j : Int), st.fs[i]? = some f ∧ (j = 0 ∨ j = 1) ∧ findFrom st.fs 0 (s : Int) = ((i : Int), j) ∧ (itAt f j).isB (s : Int) = true ∧ (itAt f j).data = packF p ∧ (packF p).length ≤ 24 := by
  have key : ∀ (x : It) (f : Fr), f ∈ st.fs → (x = f.a ∨ x = f.b) → x.isB (s : Int) = true → x.data = packF p ∧ (packF p).length ≤ 24 := by
    intro x f hf hx hb
    obtain ⟨h1, h2⟩ := (isB_iff x _).1 hb
    obtain ⟨s', p', hp', hsl, hpl, hd, hl⟩ := h.held x (mem_items.2 ⟨f, hf, hx, h1⟩)
    obtain rfl : s' = s := by omega
    rw [hs] at hp'
    injection hp' with hp'
    subst hp'
    exact ⟨hd, hl⟩
  rcases find_get (s : Int) st.fs 0 with ⟨h1, h2⟩ | ⟨i, f, hf, ⟨h1, h2⟩ | ⟨h1, _, h2⟩⟩
  · obtain ⟨x, hx, hxs⟩ := h.all s p hs hp
    obtain ⟨f, hf, hxf, hxa⟩ := mem_items.1 hx
    have hb : x.isB (s : Int) = true := (isB_iff x _).2 ⟨hxa, hxs⟩
    obtain ⟨ha1, hb1⟩ := h2 f hf
    rcases hxf with rfl | rfl
    · rw [ha1] at hb; cases hb
    · rw [hb1] at hb; cases hb
  · rw [Nat.zero_add] at h1
    obtain ⟨e1, e2⟩ := key f.a f (List.mem_of_getElem? hf) (.inl rfl) h2
    exact ⟨i, f, 0, hf, .inl rfl, h1, h2, e1, e2⟩
  · rw [Nat.zero_add] at h1
    obtain ⟨e1, e2⟩ := key f.b f (List.mem_of_getElem? hf) (.inr rfl) h2
    exact ⟨i, f, 1, hf, .inr rfl, h1, h2, e1, e2⟩

theorem split_at {fs : List Fr} {i : Nat} {f : Fr} (h : fs[i]? = some f) : fs = fs.take i ++ f :: fs.drop (i + 1) := by
  obtain ⟨hi, rfl⟩ := List.getElem?_eq_some_iff.1 h
  rw [← List.drop_eq_getElem_cons hi, List.take_append_drop]
theorem set_at {fs : List Fr} {i : Nat} {f : Fr} (h : fs[i]? = some f) (g : Fr) : fs.set i g = fs.take i ++ g :: fs.drop (i + 1) := by
  rw [List.set_eq_take_append_cons_drop, if_pos (List.getElem?_eq_some_iff.1 h).1]
theorem items_cons (f : Fr) (fs : List Fr) : items (f :: fs) = items [f] ++ items fs := items_append [f] fs
theorem items_mid (A B : List Fr) (f : Fr) : items (A ++ f :: B) = items A ++ (items [f] ++ items B) := by rw [items_append, items_cons]
open List in
theorem perm_mid {X A B : List It} {Y : List It} {x : It} (h : X ~ x :: Y) : A ++ (X ++ B) ~ x :: (A ++ (Y ++ B)) :=
  ((Perm.append_left A (Perm.append_right B h))).trans perm_middle

/-- The data of one item more. -/
theorem total_perm {fs fs' : List Fr} {x : It} (h : List.Perm (items fs') (x :: items fs)) : total fs' = total fs + x.data.length := by
  unfold total
  rw [List.Perm.sum_nat (h.map _)]
  simp [Nat.add_comm]

/-! Drop -/
theorem drop_perm {fs : List Fr} {i : Nat} {f : Fr} {j : Int} (hf : fs[i]? = some f) (hj : j = 0 ∨ j = 1) (hx : ¬ (itAt f j).absent) : List.Perm (items fs) (itAt f j :: items (dropF fs i f j)) := by
  have e : items fs = items (fs.take i) ++ (items [f] ++ items (fs.drop (i + 1))) := by rw [← items_mid, ← split_at hf]
  rw [e]
  unfold dropF
  rcases hj with rfl | rfl
  · rw [if_pos rfl]
    have hx' : ¬ f.a.absent := hx
    split
    · rename_i hb
      have hb' := (absB_iff f.b).1 hb
      rw [List.eraseIdx_eq_take_drop_succ, items_append]
      have := perm_mid (A := items (fs.take i)) (B := items (fs.drop (i + 1))) (X := items [f]) (Y := []) (x := f.a) (by rw [items_one, if_neg hx', if_pos hb']; exact List.Perm.refl _)
      exact this
    · rename_i hb
      have hb' : ¬ f.b.absent := fun h => hb ((absB_iff f.b).2 h)
      rw [set_at hf, items_mid]
      refine perm_mid ?_
      rw [items_one, items_one, if_neg hx', if_neg hb', if_pos ⟨rfl, rfl⟩]
      exact List.Perm.refl _
  · rw [if_neg (by decide)]
    have hx' : ¬ f.b.absent := hx
    split
    · rename_i hb
      have hb' := (absB_iff f.a).1 hb
      rw [List.eraseIdx_eq_take_drop_succ, items_append]
      have := perm_mid (A := items (fs.take i)) (B := items (fs.drop (i + 1))) (X := items [f]) (Y := []) (x := f.b) (by rw [items_one, if_neg hx', if_pos hb']; exact List.Perm.refl _)
      exact this
    · rename_i hb
      have hb' : ¬ f.a.absent := fun h => hb ((absB_iff f.a).2 h)
      rw [set_at hf, items_mid]
      refine perm_mid ?_
      rw [items_one, items_one, if_neg hx', if_neg hb', if_pos ⟨rfl, rfl⟩]
      exact List.perm_middle (l₁ := [f.a]) (l₂ := [])
theorem ok_dropA {f : Fr} (h : f.ok) (hb : ¬ f.b.absent) : ({ f with a := ⟨-1, []⟩ } : Fr).ok := by
  obtain ⟨h1, h2, h3, h4, h5⟩ := h
  exact ⟨h1, .inl ⟨rfl, rfl⟩, h3, fun h => hb h.2, by simp at h5 ⊢; omega⟩
theorem ok_dropB {f : Fr} (h : f.ok) (ha : ¬ f.a.absent) : ({ f with b := ⟨-1, []⟩ } : Fr).ok := by
  obtain ⟨h1, h2, h3, h4, h5⟩ := h
  exact ⟨h1, h2, .inl ⟨rfl, rfl⟩, fun h => ha h.1, by simp at h5 ⊢; omega⟩
theorem drop_parts {fs : List Fr} {i : Nat} {f : Fr} {j : Int} (hv : Valid fs) (hf : fs[i]? = some f) (hj : j = 0 ∨ j = 1) :
    (dropF fs i f j).length ≤ 4 ∧ (∀ g ∈ dropF fs i f j, g.ok) ∧ ((dropF fs i f j).map Fr.num).Sublist (fs.map Fr.num) := by
  have hok := valid_at hv hf
  have herase : (fs.eraseIdx i).length ≤ 4 ∧ (∀ g ∈ fs.eraseIdx i, g.ok) ∧ ((fs.eraseIdx i).map Fr.num).Sublist (fs.map Fr.num) :=
    ⟨Nat.le_trans (List.eraseIdx_sublist fs i).length_le hv.1, fun g hg => hv.2.1 g ((List.eraseIdx_sublist fs i).subset hg), (List.eraseIdx_sublist fs i).map _⟩
  have hset : ∀ g : Fr, g.ok → g.num = f.num → (fs.set i g).length ≤ 4 ∧ (∀ x ∈ fs.set i g, x.ok) ∧ ((fs.set i g).map Fr.num).Sublist (fs.map Fr.num) := by
    intro g hg hn
    refine ⟨by rw [List.length_set]; exact hv.1, fun x hx => ?_, ?_⟩
    · rcases List.mem_or_eq_of_mem_set hx with hx | rfl
      · exact hv.2.1 x hx
      · exact hg
    · have : (fs.set i g).map Fr.num = fs.map Fr.num := by
        rw [List.map_set, hn]
        apply List.ext_getElem?
        intro k
        rw [List.getElem?_set]
        split
        · rename_i h; subst h
          rw [List.getElem?_map, hf]; simp [(List.getElem?_eq_some_iff.1 hf).1]
        · rfl
      rw [this]
      exact List.Sublist.refl _
  unfold dropF
  rcases hj with rfl | rfl
  · rw [if_pos rfl]
    split
    · exact herase
    · rename_i hb
      exact hset _ (ok_dropA hok fun h => hb ((absB_iff f.b).2 h)) rfl
  · rw [if_neg (by decide)]
    split
    · exact herase
    · rename_i hb
      exact hset _ (ok_dropB hok fun h => hb ((absB_iff f.a).2 h)) rfl
theorem sum_set {l : List Nat} {s : Nat} {x : Nat} (h : l[s]? = some x) (y : Nat) : (l.set s y).sum + x = l.sum + y := by
  induction l generalizing s with
  | nil => simp at h
  | cons z r ih =>
    cases s with
    | zero => simp at h; subst h; simp; omega
    | succ s =>
      simp at h
      have := ih h
      simp; omega

theorem J.drop {st : St} (h : J st) {s : Nat} {p : List UInt8} (hs : st.pages[s]? = some p) (hp : p ≠ []) {i : Nat} {f : Fr} {j : Int} (hf : st.fs[i]? = some f) (hj : j = 0 ∨ j = 1) (hb : (itAt f j).isB (s : Int) = true) (hd : (itAt f j).data = packF p) :
    J ⟨dropF st.fs i f j, st.pages.set s [], st.next⟩ := by
  obtain ⟨hna, hsl⟩ := (isB_iff _ _).1 hb
  have hperm := drop_perm hf hj hna
  obtain ⟨g1, g2, g3⟩ := drop_parts h.valid hf hj
  have hnd : ((itAt f j :: items (dropF st.fs i f j)).map It.slot).Nodup := ((hperm.map _).nodup_iff).1 h.valid.2.2.2
  rw [List.map_cons, List.nodup_cons] at hnd
  have hsl9 : s < 9 := by rw [← h.len]; exact (List.getElem?_eq_some_iff.1 hs).1
  refine ⟨⟨g1, g2, List.Pairwise.sublist g3 h.valid.2.2.1, hnd.2⟩, ?_, by simp [h.len], ?_, ?_, ?_, ?_⟩
  · intro g hg
    obtain ⟨g', hg', e⟩ := List.mem_map.1 (g3.subset (List.mem_map_of_mem hg))
    show g.num < _
    rw [← e]; exact h.nums g' hg'
  · intro q hq
    rcases List.mem_or_eq_of_mem_set hq with hq | rfl
    · exact h.page q hq
    · exact .inl rfl
  · intro x hx
    obtain ⟨s', p', hp', hxs, hr⟩ := h.held x (hperm.mem_iff.2 (List.mem_cons_of_mem _ hx))
    have hne : s ≠ s' := by
      rintro rfl
      exact hnd.1 (by rw [hsl, ← hxs]; exact List.mem_map_of_mem hx)
    exact ⟨s', p', by rw [List.getElem?_set, if_neg hne]; exact hp', hxs, hr⟩
  · intro s' p' hp' hne
    simp only [List.getElem?_set] at hp'
    split at hp'
    · split at hp'
      · injection hp' with hp'; exact (hne hp'.symm).elim
      · cases hp'
    · rename_i hss
      obtain ⟨x, hx, hxs⟩ := h.all s' p' hp' hne
      rcases List.mem_cons.1 (hperm.mem_iff.1 hx) with rfl | hx'
      · exact (hss (by omega)).elim
      · exact ⟨x, hx', hxs⟩
  · have h1 := total_perm hperm
    have h2 := h.sum
    have h3 := sum_set (l := st.pages.map encLen) (s := s) (x := encLen p) (by rw [List.getElem?_map, hs]; rfl) 0
    have h4 : encLen p = (itAt f j).data.length := by rw [hd]; unfold encLen; rw [if_neg hp]
    show total (dropF st.fs i f j) = ((st.pages.set s []).map encLen).sum
    rw [List.map_set]
    have h5 : encLen [] = 0 := rfl
    rw [h5]
    omega

/-! Store -/
theorem ok_new {s : Nat} (hs : s < 9) {d : List UInt8} (h1 : 1 ≤ d.length) (h2 : d.length ≤ 24) : (⟨(s : Int), d⟩ : It).ok := ⟨by simp, by simp; omega, h1, by simp; omega⟩
theorem not_absent_new {s : Nat} {d : List UInt8} : ¬ (⟨(s : Int), d⟩ : It).absent := fun h => by have := h.1; simp at this
/-- What Store does: one item more; the frames stay in order. -/
theorem store_parts {fs fs' : List Fr} {s next : Nat} {d : List UInt8} (hv : Valid fs) (hn : ∀ f ∈ fs, f.num < next) (hs : s < 9) (h1 : 1 ≤ d.length) (h2 : d.length ≤ 24) (hx : next < 256) (h : storeF fs s d next = some fs') :
    fs'.length ≤ 4 ∧ (∀ g ∈ fs', g.ok) ∧ (fs'.map Fr.num).Pairwise (· < ·) ∧ (∀ g ∈ fs', g.num < (next + 1 : Nat)) ∧ List.Perm (items fs') (⟨(s : Int), d⟩ :: items fs) := by
  have hok := ok_new hs h1 h2
  have hna : ¬ (⟨(s : Int), d⟩ : It).absent := not_absent_new
  unfold storeF at h
  split at h
  · split at h
    · split at h
      · rename_i h4
        injection h with h
        subst h
        refine ⟨by simp; omega, ?_, ?_, ?_, ?_⟩
        · intro g hg
          rcases List.mem_append.1 hg with hg | hg
          · exact hv.2.1 g hg
          · obtain rfl := List.mem_singleton.1 hg
            exact ⟨⟨by simp, by simp; omega⟩, .inr hok, .inl ⟨rfl, rfl⟩, fun h => hna h.1, by simp; omega⟩
        · rw [List.map_append, List.pairwise_append]
          refine ⟨hv.2.2.1, by simp, fun a ha b hb => ?_⟩
          obtain ⟨f, hf, rfl⟩ := List.mem_map.1 ha
          simp at hb
          subst hb
          exact hn f hf
        · intro g hg
          rcases List.mem_append.1 hg with hg | hg
          · have := hn g hg; omega
          · obtain rfl := List.mem_singleton.1 hg
            show (next : Int) < _
            omega
        · rw [items_append, items_one, if_neg hna, if_pos ⟨rfl, rfl⟩]
          have := List.perm_middle (a := (⟨(s : Int), d⟩ : It)) (l₁ := items fs) (l₂ := [])
          rw [List.append_nil] at this
          exact this
      · cases h
    · rename_i hfit
      have hbd := fitTo_bd fs d.length fs.length
      obtain ⟨m, hm⟩ : ∃ m : Nat, fitTo fs d.length fs.length = (m : Int) := ⟨(fitTo fs d.length fs.length).toNat, by
        have : ¬ fitTo fs d.length fs.length = -1 := by simpa using hfit
        omega⟩
      obtain ⟨f, hfm, hsk⟩ := fitTo_get _ _ hm
      rw [hm, Int.toNat_natCast, hfm] at h
      injection h with h
      change fs.set m (addAt f ⟨s, d⟩) = fs' at h
      subst h
      have hfok := valid_at hv hfm
      obtain ⟨o1, o2, o3, o4, o5⟩ := hfok
      have hfree : (d.length : Int) ≤ f.free := by
        unfold skipB at hsk
        simp only [Bool.or_eq_false_iff, decide_eq_false_iff_not] at hsk
        omega
      unfold Fr.free at hfree
      have key : (addAt f ⟨s, d⟩).ok ∧ (addAt f ⟨s, d⟩).num = f.num ∧ List.Perm (items [addAt f ⟨s, d⟩]) (⟨(s : Int), d⟩ :: items [f]) := by
        unfold addAt
        split
        · rename_i ha
          have ha' := (absB_iff f.a).1 ha
          have hb' : ¬ f.b.absent := fun h => o4 ⟨ha', h⟩
          refine ⟨⟨o1, .inr hok, o3, fun h => hna h.1, ?_⟩, rfl, ?_⟩
          · simp only; omega
          · rw [items_one, items_one, if_neg hna, if_pos ha', if_neg hb']
            exact List.Perm.refl _
        · rename_i ha
          have ha' : ¬ f.a.absent := fun h => ha ((absB_iff f.a).2 h)
          have hb' : f.b.absent := by
            unfold skipB at hsk
            rw [Bool.or_eq_false_iff] at hsk
            have hsk := hsk.1
            rw [Bool.eq_false_iff.2 ha] at hsk
            cases hb : absB f.b.slot f.b.data.length with
            | true => exact (absB_iff f.b).1 hb
            | false => rw [hb] at hsk; simp at hsk
          refine ⟨⟨o1, o2, .inr hok, fun h => ha' h.1, ?_⟩, rfl, ?_⟩
          · simp only; omega
          · rw [items_one, items_one, if_neg ha', if_neg hna, if_pos hb']
            exact List.perm_middle (l₁ := [f.a]) (l₂ := [])
      obtain ⟨k1, k2, k3⟩ := key
      have hnum : (fs.set m (addAt f ⟨s, d⟩)).map Fr.num = fs.map Fr.num := by
        rw [List.map_set, k2]
        apply List.ext_getElem?
        intro k
        rw [List.getElem?_set]
        split
        · rename_i h; subst h
          rw [List.getElem?_map, hfm]; simp [(List.getElem?_eq_some_iff.1 hfm).1]
        · rfl
      refine ⟨by rw [List.length_set]; exact hv.1, ?_, by rw [hnum]; exact hv.2.2.1, ?_, ?_⟩
      · intro g hg
        rcases List.mem_or_eq_of_mem_set hg with hg | rfl
        · exact hv.2.1 g hg
        · exact k1
      · intro g hg
        rcases List.mem_or_eq_of_mem_set hg with hg | rfl
        · have := hn g hg; omega
        · have := hn f (List.mem_of_getElem? hfm); rw [k2]; omega
      · have e : items fs = items (fs.take m) ++ (items [f] ++ items (fs.drop (m + 1))) := by rw [← items_mid, ← split_at hfm]
        rw [set_at hfm, items_mid, e]
        exact perm_mid k3
  · cases h

theorem J.put {st : St} (h : J st) {s : Nat} {p : List UInt8} (hs : st.pages[s]? = some []) (hp : p.length = 32) (hk : (packF p).length ≤ 24) (hx : st.next < 256) {fs' : List Fr} (hst : storeF st.fs s (packF p) st.next = some fs') :
    J ⟨fs', st.pages.set s p, st.next + 1⟩ := by
  have hsl9 : s < 9 := by rw [← h.len]; exact (List.getElem?_eq_some_iff.1 hs).1
  have hpn : p ≠ [] := by rintro rfl; simp at hp
  obtain ⟨g1, g2, g3, g4, hperm⟩ := store_parts h.valid h.nums hsl9 (packF_pos p) hk hx hst
  have hnew : ∀ x ∈ items st.fs, x.slot ≠ (s : Int) := by
    intro x hx e
    obtain ⟨s', p', hp', hxs, hpl, _⟩ := h.held x hx
    obtain rfl : s' = s := by omega
    rw [hs] at hp'
    injection hp' with hp'
    subst hp'
    simp at hpl
  refine ⟨⟨g1, g2, g3, ?_⟩, g4, by simp [h.len], ?_, ?_, ?_, ?_⟩
  · rw [(hperm.map It.slot).nodup_iff, List.map_cons, List.nodup_cons]
    refine ⟨fun hm => ?_, h.valid.2.2.2⟩
    obtain ⟨x, hx, e⟩ := List.mem_map.1 hm
    exact hnew x hx e
  · intro q hq
    rcases List.mem_or_eq_of_mem_set hq with hq | rfl
    · exact h.page q hq
    · exact .inr hp
  · intro x hx
    rcases List.mem_cons.1 (hperm.mem_iff.1 hx) with rfl | hx'
    · exact ⟨s, p, by simp [List.getElem?_set, h.len, hsl9], rfl, hp, rfl, hk⟩
    · obtain ⟨s', p', hp', hxs, hr⟩ := h.held x hx'
      have hne : s ≠ s' := by
        rintro rfl
        exact hnew x hx' hxs
      exact ⟨s', p', by rw [List.getElem?_set, if_neg hne]; exact hp', hxs, hr⟩
  · intro s' p' hp' hne
    simp only [List.getElem?_set] at hp'
    split at hp'
    · rename_i hss
      subst hss
      exact ⟨⟨(s : Int), packF p⟩, hperm.mem_iff.2 (List.mem_cons_self ..), rfl⟩
    · obtain ⟨x, hx, hxs⟩ := h.all s' p' hp' hne
      exact ⟨x, hperm.mem_iff.2 (List.mem_cons_of_mem _ hx), hxs⟩
  · have h1 := total_perm hperm
    have h2 := h.sum
    have h3 := sum_set (l := st.pages.map encLen) (s := s) (x := 0) (by rw [List.getElem?_map, hs]; rfl) (encLen p)
    have h4 : encLen p = (packF p).length := by unfold encLen; rw [if_neg hpn]
    show total fs' = ((st.pages.set s p).map encLen).sum
    rw [List.map_set]
    simp only at h1
    omega
end Go.Proofs.Ytfdmmbalfjcehaa
