/- Contract of dPooled: what it plays is a run. -/
import Derived.Test.YtfdmmbalfjcehaaGq
import Derived.Test.YtfdmmbalfjcehaaHe
import Derived.Test.YtfdmmbalfjcehaaFb
import Derived.Laws.BytesArg
namespace Go.Proofs.Ytfdmmbalfjcehaa
open Go.RowKit
set_option linter.unusedVariables false
set_option linter.unusedSimpArgs false
attribute [local go_sem] lt_more lt_more2 lt_more3 lt_more4 lt_more5 lt_more6 lt_more7 lt_more8

/-- The nine pages, whole, in a world. -/
def Nine (w : World) (B : Nat) (vs : Array Value) : Prop := w.heap[B]? = some (.cells vs 28 (0, 0))
theorem Nine.lt {w : World} {B : Nat} {vs : Array Value} (h : Nine w B vs) : B < w.heap.size := (Array.getElem?_eq_some_iff.1 h).1
theorem Nine.keep {W w1 : World} {B : Nat} {vs : Array Value} (h : Nine W B vs) (hb : Below W.heap.size W w1) : Nine w1 B vs := (hb.block B h.lt).trans h
theorem Nine.alloc {w : World} {B : Nat} {vs : Array Value} (h : Nine w B vs) (o : Obj) : Nine (w.alloc o) B vs := (heap_alloc_old w o h.lt).trans h
theorem Nine.far {w : World} {B : Nat} {vs : Array Value} {x : Value} (h : Nine w B vs) {p : Addr} (hp : B ≠ p.block) : Nine (w.setCell p x) B vs := (Below.heap_setCell w p x B hp).trans h
theorem Nine.cell {w : World} {B : Nat} {vs : Array Value} (h : Nine w B vs) (s : Nat) : w.cell? ⟨B, s, none⟩ = vs[s]? := cell_of_row w B s _ 28 (0, 0) h
theorem Nine.frozen {w : World} {B : Nat} {vs : Array Value} (h : Nine w B vs) (s : Nat) : w.frozen? ⟨B, s, none⟩ = false := by unfold Nine at h; simp [World.frozen?, h]
theorem Nine.set_ {w : World} {B : Nat} {vs : Array Value} (h : Nine w B vs) (s : Nat) (x : Value) : Nine (w.setCell ⟨B, s, none⟩ x) B (vs.setIfInBounds s x) := by
  unfold Nine at h ⊢; simp [World.setCell, Array.getElem?_modify, h]
def PgV (w : World) (vs : Array Value) (pages : List (List UInt8)) : Prop := vs.size = 9 ∧ ∀ (s : Nat) (v : Value) (p : List UInt8), vs[s]? = some v → pages[s]? = some p → ByV w v p
theorem PgV.keep {w w' : World} {vs : Array Value} {pages : List (List UInt8)} (h : PgV w vs pages) (hb : Below w.heap.size w w') : PgV w' vs pages := ⟨h.1, fun s v p h1 h2 => (h.2 s v p h1 h2).below hb⟩
theorem PgV.farT {w : World} {vs : Array Value} {pages : List (List UInt8)} (h : PgV w vs pages) {g t : Nat} {cur : Array Value} {fr : Nat × Nat} (hg : w.heap[g]? = some (.cells cur t fr)) (h5 : t ≠ 5) {o : Nat} {u : Value} : PgV (w.setCell ⟨g, o, none⟩ u) vs pages :=
  ⟨h.1, fun s v p h1 h2 => (h.2 s v p h1 h2).farT hg h5⟩
theorem PgV.set_ {w : World} {vs : Array Value} {pages : List (List UInt8)} (h : PgV w vs pages) (s : Nat) (v : Value) (p : List UInt8) (hv : ByV w v p) : PgV w (vs.setIfInBounds s v) (pages.set s p) := by
  refine ⟨by simp [h.1], fun s' v' p' h1 h2 => ?_⟩
  rw [Array.getElem?_setIfInBounds] at h1
  rw [List.getElem?_set] at h2
  split at h1
  · rename_i e; subst e
    rw [if_pos rfl] at h2
    split at h1
    · split at h2
      · injection h1 with h1; injection h2 with h2; subst h1 h2; exact hv
      · cases h2
    · cases h1
  · rename_i e
    rw [if_neg e] at h2
    exact h.2 s' v' p' h1 h2

/-- A slice that reads as a list of operations, wherever it begins. -/
def OpsR (w : World) (v : Value) (ops : List Op) : Prop :=
  ∃ A c, v = .slice A ops.length c ∧ ops.length ≤ c ∧ c ≤ maxLen ∧ ∀ (k : Nat) (x : Op), ops[k]? = some x → ∃ g o, A = some ⟨g, o, none⟩ ∧ g < w.heap.size ∧
    w.cell? ⟨g, o + k * 4, none⟩ = some (bc x.kind) ∧ w.cell? ⟨g, o + k * 4 + 1, none⟩ = some (bc x.slot) ∧ w.cell? ⟨g, o + k * 4 + 2, none⟩ = some (bc x.value) ∧ w.cell? ⟨g, o + k * 4 + 3, none⟩ = some (bc x.period)
theorem OpsR.keep {w w' : World} {v : Value} {ops : List Op} (h : OpsR w v ops) (hb : Below w.heap.size w w') : OpsR w' v ops := by
  obtain ⟨A, c, hv, h1, h2, hs⟩ := h
  refine ⟨A, c, hv, h1, h2, fun k x hx => ?_⟩
  obtain ⟨g, o, hg, hl, a0, a1, a2, a3⟩ := hs k x hx
  exact ⟨g, o, hg, Nat.lt_of_lt_of_le hl hb.size, (hb.cell (p := ⟨g, _, none⟩) hl).trans a0, (hb.cell (p := ⟨g, _, none⟩) hl).trans a1, (hb.cell (p := ⟨g, _, none⟩) hl).trans a2, (hb.cell (p := ⟨g, _, none⟩) hl).trans a3⟩
theorem OpsR.at_ {w : World} {v : Value} {ops : List Op} (h : OpsR w v ops) {k : Nat} {x : Op} (hx : ops[k]? = some x) : ∃ g o c, v = .slice (some ⟨g, o, none⟩) ops.length c ∧ g < w.heap.size ∧
    w.cell? ⟨g, o + k * 4, none⟩ = some (bc x.kind) ∧ w.cell? ⟨g, o + k * 4 + 1, none⟩ = some (bc x.slot) ∧ w.cell? ⟨g, o + k * 4 + 2, none⟩ = some (bc x.value) ∧ w.cell? ⟨g, o + k * 4 + 3, none⟩ = some (bc x.period) := by
  obtain ⟨A, c, hv, h1, h2, hs⟩ := h
  obtain ⟨g, o, rfl, hl, hc⟩ := hs k x hx
  exact ⟨g, o, c, hv, hl, hc⟩

/-- Nine empty pages. -/
def nils : Array Value := #[.slice none 0 0, .slice none 0 0, .slice none 0 0, .slice none 0 0, .slice none 0 0, .slice none 0 0, .slice none 0 0, .slice none 0 0, .slice none 0 0]
theorem PgV0 (w : World) : PgV w nils st0.pages := by
  refine ⟨rfl, fun s v p h1 h2 => ?_⟩
  obtain rfl : p = [] := List.eq_of_mem_replicate (List.mem_of_getElem? h2)
  obtain rfl : v = .slice none 0 0 := by
    have hm := Array.mem_of_getElem? h1
    simpa [nils] using hm
  exact World.ownsRow_nil _ _ _ _
/-- What the loop of dPooled keeps. -/
structure PL (w : World) (B Bp Bg : Nat) (fv : Value) (vs : Array Value) (st : St) : Prop where
  r1 : Two w B (.int .i64 0) (.slice none 0 0)
  r2 : Nine w (B + 1) nils
  p : Two w Bp (.int .i64 4) fv
  g : Nine w Bg vs
  fr : FrsV w fv st.fs
  pg : PgV w vs st.pages
theorem PL.keep {w w' : World} {B Bp Bg : Nat} {fv : Value} {vs : Array Value} {st : St} (h : PL w B Bp Bg fv vs st) (hb : Below w.heap.size w w') : PL w' B Bp Bg fv vs st :=
  ⟨h.r1.keep hb, h.r2.keep hb, h.p.keep hb, h.g.keep hb, h.fr.below hb, h.pg.keep hb⟩
/-- The page of a slot, as it lies. -/
theorem PL.page {w : World} {B Bp Bg : Nat} {fv : Value} {vs : Array Value} {st : St} (h : PL w B Bp Bg fv vs st) (hj : J st) {s : Nat} (hs : s < 9) : ∃ A c, vs[s]? = some (.slice A (pageAt st s).length c) ∧ ByV w (.slice A (pageAt st s).length c) (pageAt st s) ∧ w.cell? ⟨Bg, s, none⟩ = some (.slice A (pageAt st s).length c) := by
  have hv : vs[s]? = some (vs[s]'(by rw [h.pg.1]; exact hs)) := Array.getElem?_eq_getElem _
  have hb := h.pg.2 s _ _ hv (hj.pageAt_get hs)
  obtain ⟨A, c, e, _, _⟩ := hb.form
  rw [e] at hv hb
  exact ⟨A, c, hv, hb, (h.g.cell s).trans hv⟩
theorem Two.drew {w : World} {B : Nat} {u v : Value} (h : Two w B u v) : Two w.drew B u v := h
theorem Nine.drew {w : World} {B : Nat} {vs : Array Value} (h : Nine w B vs) : Nine w.drew B vs := h
theorem FrsV.drew {w : World} {v : Value} {fs : List Fr} (h : FrsV w v fs) : FrsV w.drew v fs := h
theorem PgV.drew {w : World} {vs : Array Value} {pages : List (List UInt8)} (h : PgV w vs pages) : PgV w.drew vs pages := h
theorem Two.nine {w : World} {B C : Nat} {u v : Value} (h : Two w B u v) (hc : B ≠ C) {a0 a1 a2 a3 a4 a5 a6 a7 a8 : Value} : Two (((((((((w.setCell ⟨C, 0, none⟩ a0).setCell ⟨C, 1, none⟩ a1).setCell ⟨C, 2, none⟩ a2).setCell ⟨C, 3, none⟩ a3).setCell ⟨C, 4, none⟩ a4).setCell ⟨C, 5, none⟩ a5).setCell ⟨C, 6, none⟩ a6).setCell ⟨C, 7, none⟩ a7).setCell ⟨C, 8, none⟩ a8) B u v := (((((((((h.far (p := ⟨C, 0, none⟩) hc).far (p := ⟨C, 1, none⟩) hc).far (p := ⟨C, 2, none⟩) hc).far (p := ⟨C, 3, none⟩) hc).far (p := ⟨C, 4, none⟩) hc).far (p := ⟨C, 5, none⟩) hc).far (p := ⟨C, 6, none⟩) hc).far (p := ⟨C, 7, none⟩) hc).far (p := ⟨C, 8, none⟩) hc)
theorem Nine.two {w : World} {B C : Nat} {vs : Array Value} (h : Nine w B vs) (hc : B ≠ C) {a b : Value} : Nine ((w.setCell ⟨C, 0, none⟩ a).setCell ⟨C, 1, none⟩ b) B vs := (h.far (p := ⟨C, 0, none⟩) hc).far (p := ⟨C, 1, none⟩) hc
theorem PgV.forms {w : World} {vs : Array Value} {pages : List (List UInt8)} (h : PgV w vs pages) (hl : pages.length = 9) :
    ∃ (A0 : Option Addr) (n0 c0 : Nat) (A1 : Option Addr) (n1 c1 : Nat) (A2 : Option Addr) (n2 c2 : Nat) (A3 : Option Addr) (n3 c3 : Nat) (A4 : Option Addr) (n4 c4 : Nat) (A5 : Option Addr) (n5 c5 : Nat) (A6 : Option Addr) (n6 c6 : Nat) (A7 : Option Addr) (n7 c7 : Nat) (A8 : Option Addr) (n8 c8 : Nat), vs = #[.slice A0 n0 c0, .slice A1 n1 c1, .slice A2 n2 c2, .slice A3 n3 c3, .slice A4 n4 c4, .slice A5 n5 c5, .slice A6 n6 c6, .slice A7 n7 c7, .slice A8 n8 c8] := by
  obtain ⟨hs, hb⟩ := h
  obtain ⟨l⟩ := vs
  match l, hs with
  | [v0, v1, v2, v3, v4, v5, v6, v7, v8], _ =>
    match pages, hl with
    | [p0, p1, p2, p3, p4, p5, p6, p7, p8], _ =>
      obtain ⟨A0, c0, rfl, _, _⟩ := (hb 0 _ _ rfl rfl).form
      obtain ⟨A1, c1, rfl, _, _⟩ := (hb 1 _ _ rfl rfl).form
      obtain ⟨A2, c2, rfl, _, _⟩ := (hb 2 _ _ rfl rfl).form
      obtain ⟨A3, c3, rfl, _, _⟩ := (hb 3 _ _ rfl rfl).form
      obtain ⟨A4, c4, rfl, _, _⟩ := (hb 4 _ _ rfl rfl).form
      obtain ⟨A5, c5, rfl, _, _⟩ := (hb 5 _ _ rfl rfl).form
      obtain ⟨A6, c6, rfl, _, _⟩ := (hb 6 _ _ rfl rfl).form
      obtain ⟨A7, c7, rfl, _, _⟩ := (hb 7 _ _ rfl rfl).form
      obtain ⟨A8, c8, rfl, _, _⟩ := (hb 8 _ _ rfl rfl).form
      exact ⟨A0, _, c0, A1, _, c1, A2, _, c2, A3, _, c3, A4, _, c4, A5, _, c5, A6, _, c6, A7, _, c7, A8, _, c8, rfl⟩
theorem Nine.s0 {w : World} {B : Nat} {v0 v1 v2 v3 v4 v5 v6 v7 v8 a : Value} (h : Nine w B #[v0, v1, v2, v3, v4, v5, v6, v7, v8]) : Nine (w.setCell ⟨B, 0, none⟩ a) B #[a, v1, v2, v3, v4, v5, v6, v7, v8] := by
  have h2 := h.set_ 0 a
  simpa using h2
theorem Nine.s1 {w : World} {B : Nat} {v0 v1 v2 v3 v4 v5 v6 v7 v8 a : Value} (h : Nine w B #[v0, v1, v2, v3, v4, v5, v6, v7, v8]) : Nine (w.setCell ⟨B, 1, none⟩ a) B #[v0, a, v2, v3, v4, v5, v6, v7, v8] := by
  have h2 := h.set_ 1 a
  simpa using h2
theorem Nine.s2 {w : World} {B : Nat} {v0 v1 v2 v3 v4 v5 v6 v7 v8 a : Value} (h : Nine w B #[v0, v1, v2, v3, v4, v5, v6, v7, v8]) : Nine (w.setCell ⟨B, 2, none⟩ a) B #[v0, v1, a, v3, v4, v5, v6, v7, v8] := by
  have h2 := h.set_ 2 a
  simpa using h2
theorem Nine.s3 {w : World} {B : Nat} {v0 v1 v2 v3 v4 v5 v6 v7 v8 a : Value} (h : Nine w B #[v0, v1, v2, v3, v4, v5, v6, v7, v8]) : Nine (w.setCell ⟨B, 3, none⟩ a) B #[v0, v1, v2, a, v4, v5, v6, v7, v8] := by
  have h2 := h.set_ 3 a
  simpa using h2
theorem Nine.s4 {w : World} {B : Nat} {v0 v1 v2 v3 v4 v5 v6 v7 v8 a : Value} (h : Nine w B #[v0, v1, v2, v3, v4, v5, v6, v7, v8]) : Nine (w.setCell ⟨B, 4, none⟩ a) B #[v0, v1, v2, v3, a, v5, v6, v7, v8] := by
  have h2 := h.set_ 4 a
  simpa using h2
theorem Nine.s5 {w : World} {B : Nat} {v0 v1 v2 v3 v4 v5 v6 v7 v8 a : Value} (h : Nine w B #[v0, v1, v2, v3, v4, v5, v6, v7, v8]) : Nine (w.setCell ⟨B, 5, none⟩ a) B #[v0, v1, v2, v3, v4, a, v6, v7, v8] := by
  have h2 := h.set_ 5 a
  simpa using h2
theorem Nine.s6 {w : World} {B : Nat} {v0 v1 v2 v3 v4 v5 v6 v7 v8 a : Value} (h : Nine w B #[v0, v1, v2, v3, v4, v5, v6, v7, v8]) : Nine (w.setCell ⟨B, 6, none⟩ a) B #[v0, v1, v2, v3, v4, v5, a, v7, v8] := by
  have h2 := h.set_ 6 a
  simpa using h2
theorem Nine.s7 {w : World} {B : Nat} {v0 v1 v2 v3 v4 v5 v6 v7 v8 a : Value} (h : Nine w B #[v0, v1, v2, v3, v4, v5, v6, v7, v8]) : Nine (w.setCell ⟨B, 7, none⟩ a) B #[v0, v1, v2, v3, v4, v5, v6, a, v8] := by
  have h2 := h.set_ 7 a
  simpa using h2
theorem Nine.s8 {w : World} {B : Nat} {v0 v1 v2 v3 v4 v5 v6 v7 v8 a : Value} (h : Nine w B #[v0, v1, v2, v3, v4, v5, v6, v7, v8]) : Nine (w.setCell ⟨B, 8, none⟩ a) B #[v0, v1, v2, v3, v4, v5, v6, v7, a] := by
  have h2 := h.set_ 8 a
  simpa using h2
theorem Nine.fill {w : World} {B : Nat} {vs : Array Value} (h : Nine w B vs) (hs : vs.size = 9) {a0 a1 a2 a3 a4 a5 a6 a7 a8 : Value} : Nine (((((((((w.setCell ⟨B, 0, none⟩ a0).setCell ⟨B, 1, none⟩ a1).setCell ⟨B, 2, none⟩ a2).setCell ⟨B, 3, none⟩ a3).setCell ⟨B, 4, none⟩ a4).setCell ⟨B, 5, none⟩ a5).setCell ⟨B, 6, none⟩ a6).setCell ⟨B, 7, none⟩ a7).setCell ⟨B, 8, none⟩ a8) B #[a0, a1, a2, a3, a4, a5, a6, a7, a8] := by
  obtain ⟨l⟩ := vs
  match l, hs with
  | [v0, v1, v2, v3, v4, v5, v6, v7, v8], _ => exact ((((((((h.s0).s1).s2).s3).s4).s5).s6).s7).s8
theorem FrsV.nine {w : World} {v : Value} {fs : List Fr} (h : FrsV w v fs) {B : Nat} {vs : Array Value} (hg : Nine w B vs) {a0 a1 a2 a3 a4 a5 a6 a7 a8 : Value} : FrsV (((((((((w.setCell ⟨B, 0, none⟩ a0).setCell ⟨B, 1, none⟩ a1).setCell ⟨B, 2, none⟩ a2).setCell ⟨B, 3, none⟩ a3).setCell ⟨B, 4, none⟩ a4).setCell ⟨B, 5, none⟩ a5).setCell ⟨B, 6, none⟩ a6).setCell ⟨B, 7, none⟩ a7).setCell ⟨B, 8, none⟩ a8) v fs :=
  (((((((((h.farT hg (by decide) (by decide)).farT (hg.set_ 0 a0) (by decide) (by decide)).farT ((hg.set_ 0 a0).set_ 1 a1) (by decide) (by decide)).farT (((hg.set_ 0 a0).set_ 1 a1).set_ 2 a2) (by decide) (by decide)).farT ((((hg.set_ 0 a0).set_ 1 a1).set_ 2 a2).set_ 3 a3) (by decide) (by decide)).farT (((((hg.set_ 0 a0).set_ 1 a1).set_ 2 a2).set_ 3 a3).set_ 4 a4) (by decide) (by decide)).farT ((((((hg.set_ 0 a0).set_ 1 a1).set_ 2 a2).set_ 3 a3).set_ 4 a4).set_ 5 a5) (by decide) (by decide)).farT (((((((hg.set_ 0 a0).set_ 1 a1).set_ 2 a2).set_ 3 a3).set_ 4 a4).set_ 5 a5).set_ 6 a6) (by decide) (by decide)).farT ((((((((hg.set_ 0 a0).set_ 1 a1).set_ 2 a2).set_ 3 a3).set_ 4 a4).set_ 5 a5).set_ 6 a6).set_ 7 a7) (by decide) (by decide))
theorem PgV.nine {w : World} {ws : Array Value} {pages : List (List UInt8)} (h : PgV w ws pages) {B : Nat} {vs : Array Value} (hg : Nine w B vs) {a0 a1 a2 a3 a4 a5 a6 a7 a8 : Value} : PgV (((((((((w.setCell ⟨B, 0, none⟩ a0).setCell ⟨B, 1, none⟩ a1).setCell ⟨B, 2, none⟩ a2).setCell ⟨B, 3, none⟩ a3).setCell ⟨B, 4, none⟩ a4).setCell ⟨B, 5, none⟩ a5).setCell ⟨B, 6, none⟩ a6).setCell ⟨B, 7, none⟩ a7).setCell ⟨B, 8, none⟩ a8) ws pages :=
  (((((((((h.farT hg (by decide)).farT (hg.set_ 0 a0) (by decide)).farT ((hg.set_ 0 a0).set_ 1 a1) (by decide)).farT (((hg.set_ 0 a0).set_ 1 a1).set_ 2 a2) (by decide)).farT ((((hg.set_ 0 a0).set_ 1 a1).set_ 2 a2).set_ 3 a3) (by decide)).farT (((((hg.set_ 0 a0).set_ 1 a1).set_ 2 a2).set_ 3 a3).set_ 4 a4) (by decide)).farT ((((((hg.set_ 0 a0).set_ 1 a1).set_ 2 a2).set_ 3 a3).set_ 4 a4).set_ 5 a5) (by decide)).farT (((((((hg.set_ 0 a0).set_ 1 a1).set_ 2 a2).set_ 3 a3).set_ 4 a4).set_ 5 a5).set_ 6 a6) (by decide)).farT ((((((((hg.set_ 0 a0).set_ 1 a1).set_ 2 a2).set_ 3 a3).set_ 4 a4).set_ 5 a5).set_ 6 a6).set_ 7 a7) (by decide))
theorem PgV.two {w : World} {ws : Array Value} {pages : List (List UInt8)} (h : PgV w ws pages) {B : Nat} {x y x' y' : Value} (hg : Two w B x y) : PgV ((w.setCell ⟨B, 0, none⟩ x').setCell ⟨B, 1, none⟩ y') ws pages :=
  (h.farT hg (by decide)).farT hg.set0 (by decide)
/-- The pool is another, and one page. -/
theorem PL.turn {w : World} {B Bp : Nat} {fv fv' : Value} {vs : Array Value} {st : St} (h : PL w B Bp (Bp + 1) fv vs st) (hB : B + 1 < Bp) {fs' : List Fr} (hf : FrsV w fv' fs') {s nx : Nat} {x : Value} {p : List UInt8} (hx : ByV w x p) :
    PL (((w.setCell ⟨Bp, 0, none⟩ (.int .i64 4)).setCell ⟨Bp, 1, none⟩ fv').setCell ⟨Bp + 1, s, none⟩ x) B Bp (Bp + 1) fv' (vs.setIfInBounds s x) ⟨fs', st.pages.set s p, nx⟩ := by
  have n1 : B ≠ Bp := by omega
  have n2 : B ≠ Bp + 1 := by omega
  have n3 : B + 1 ≠ Bp := by omega
  have n4 : B + 1 ≠ Bp + 1 := by omega
  have n5 : Bp ≠ Bp + 1 := by omega
  have n6 : Bp + 1 ≠ Bp := by omega
  have hg := h.g.two n6 (a := .int .i64 4) (b := fv')
  refine ⟨((h.r1.far (p := ⟨Bp, 0, none⟩) n1).far (p := ⟨Bp, 1, none⟩) n1).far (p := ⟨Bp + 1, s, none⟩) n2, (h.r2.two n3).far (p := ⟨Bp + 1, s, none⟩) n4, h.p.set2.far (p := ⟨Bp + 1, s, none⟩) n5, hg.set_ s x, (hf.two h.p).farT hg (by decide) (by decide), ?_⟩
  exact ((h.pg.two h.p).farT hg (by decide)).set_ s x p (((hx.farT h.p (by decide)).farT h.p.set0 (by decide)).farT hg (by decide))
theorem poolPage_int (w : World) (a b x d : UInt8) :
    Calls Try.prog 14 #[.agg #[.int .u8 (a.toNat : Int), .int .u8 (b.toNat : Int), .int .u8 (x.toNat : Int), .int .u8 (d.toNat : Int)]] w fun e w' => (∃ (v' : Value) (l : List UInt8), e = .returned v' ∧ ByV w' v' l ∧ l.length = 32 ∧ (d.toNat % 8 = 0 → l = List.replicate 32 x)) ∧ Below w.heap.size w w' := poolPage_any w a b x d
def strB (l : List UInt8) : ByteArray := strOfNums (nums l)
theorem conv_ByR {w : World} {A : Option Addr} {n c : Nat} {l : List UInt8} (h : ByR w (.slice A n c) l) (hl : l.length = 32) : (convert 27 9 (.slice A n c)).run Try.prog w = .ok (.string (strB l)) w := by
  obtain ⟨g, o, c', hv, h1, h2, hg, hc⟩ := h.at_ (by omega)
  injection hv with e1 e2 e3
  subst e1 e2 e3
  refine run_convert_bytes_arg w 27 5 Try.underlying27 Try.underlying5 g o l.length c (nums l) (nums_len l) (fun i hi => ?_) 9 Try.underlying9
  rw [nums_get l i hi]
  exact hc i _ (List.getElem?_eq_getElem hi)
theorem res5 {W : World} {B : Nat} {x y z a0 a1 a2 a3 a4 a5 a6 a7 a8 : Value} {a : Act} (h : Two W B x y) (hg : Nine W (B + 1) #[a0, a1, a2, a3, a4, a5, a6, a7, a8]) (h2 : a.tmps.getD 2 undef = .pointer (some ⟨B, 0, none⟩)) (h3 : a.tmps.getD 3 undef = .pointer (some ⟨B + 1, 0, none⟩)) (h4 : a.tmps.getD 4 undef = z) :
    (results Try.f5 a.tmps).run Try.prog W = .ok (.tuple #[.agg #[x, y], .agg #[a0, a1, a2, a3, a4, a5, a6, a7, a8], z]) W := by
  obtain ⟨c0, c1, _⟩ := h.all
  have e0 := hg.cell 0
  have e1 := hg.cell 1
  have e2 := hg.cell 2
  have e3 := hg.cell 3
  have e4 := hg.cell 4
  have e5 := hg.cell 5
  have e6 := hg.cell 6
  have e7 := hg.cell 7
  have e8 := hg.cell 8
  simp only [Array.getD_eq_getD_getElem?] at h2 h3 h4
  simp at e0 e1 e2 e3 e4 e5 e6 e7 e8
  simp [results, Try.results5, go_sem, h2, h3, h4, c0, c1, e0, e1, e2, e3, e4, e5, e6, e7, e8]
end Go.Proofs.Ytfdmmbalfjcehaa
