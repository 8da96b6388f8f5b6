/- Contract of the closure of compress.packMatches that hands out literals. -/
import Derived.Test.YtfdmmbalfjcehaaCd
import Derived.Test.YtfdmmbalfjcehaaPj
import Derived.Deep.RegionHeld3
import Derived.Deep.RegionLaw
import Derived.Deep.AppendLies
namespace Go.Proofs.Ytfdmmbalfjcehaa
open Go.RowKit
set_option linter.unusedVariables false
set_option linter.unusedSimpArgs false
attribute [local go_sem] lt_more lt_more2 lt_more3 lt_more4 lt_more5 lt_more6 lt_more7 lt_more8

def One (w : World) (B : Nat) (t : TypeId) (v : Value) : Prop := w.heap[B]? = some (.cells #[v] t (0, 0))
theorem One.lt {w : World} {B : Nat} {t : TypeId} {v : Value} (h : One w B t v) : B < w.heap.size := (Array.getElem?_eq_some_iff.1 h).1
theorem One.cell {w : World} {B : Nat} {t : TypeId} {v : Value} (h : One w B t v) : w.cell? ⟨B, 0, none⟩ = some v := cell_of_row w B 0 _ t (0, 0) h
theorem One.frozen {w : World} {B : Nat} {t : TypeId} {v : Value} (h : One w B t v) : w.frozen? ⟨B, 0, none⟩ = false := by unfold One at h; simp [World.frozen?, h]
theorem One.keep {W w1 : World} {B : Nat} {t : TypeId} {v : Value} (h : One W B t v) (hb : Below W.heap.size W w1) : One w1 B t v := (hb.block B h.lt).trans h
theorem One.grown {w w' : World} {B : Nat} {t : TypeId} {v : Value} (h : One w B t v) {row : Option Nat} (hg : w.grownBy w' row) (hne : row ≠ some B) : One w' B t v := (hg.block B h.lt (fun e => hne e.symm)).trans h
theorem One.alloc {w : World} {B : Nat} {t : TypeId} {v : Value} (h : One w B t v) (o : Obj) : One (w.alloc o) B t v := (heap_alloc_old w o h.lt).trans h
theorem One.far {w : World} {B : Nat} {t : TypeId} {v x : Value} (h : One w B t v) {p : Addr} (hp : B ≠ p.block) : One (w.setCell p x) B t v := (Below.heap_setCell w p x B hp).trans h
theorem One.set_ {w : World} {B : Nat} {t : TypeId} {v x : Value} (h : One w B t v) : One (w.setCell ⟨B, 0, none⟩ x) B t x := by
  unfold One at h ⊢; simp [World.setCell, Array.getElem?_modify, h]
/-- A row of bytes lies in another block than a box of another type. -/
theorem own_ne {w : World} {base n B : Nat} {t : TypeId} {v u : Value} {xs : List Value} (h : w.ownsRow base 5 1 v n xs) (ho : One w B t u) (ht : t ≠ 5) : v.ownBlock ≠ some B := by
  intro e
  rcases h.2 with ⟨rfl, _⟩ | ⟨g, cap, cur, rfl, _, hh, _⟩
  · simp [Value.ownBlock] at e
  · simp [Value.ownBlock] at e
    subst e
    unfold One at ho; rw [ho] at hh; injection hh with hh; injection hh with _ h2; exact ht h2

def lits (l : List UInt8) (a b : Nat) : List UInt8 := if a < b then UInt8.ofNat (b - a - 1) :: (l.take b).drop a else []

theorem flush_no (w : World) (fi te B1 B2 B3 : Nat) (hle : ¬ fi < te) (h1 : One w B1 3 (.int .i64 fi)) :
    Calls Try.prog 37 #[.int .i64 te, .pointer (some ⟨B1, 0, none⟩), .pointer (some ⟨B2, 0, none⟩), .pointer (some ⟨B3, 0, none⟩)] w fun e w' => e = .returned (.tuple #[]) ∧ w = w' := by
  have c1 := h1.cell
  have d1 : decide ((fi : Int) < te) = false := decide_eq_false (by omega)
  clear h1
  go_enter Try.func37, Try.ntmps37
  go_wp2
  go_end0
  exact ⟨rfl, rfl⟩

theorem froz_alloc {w : World} {B o : Nat} {x : Obj} (h : B < w.heap.size) : (w.alloc x).frozen? ⟨B, o, none⟩ = w.frozen? ⟨B, o, none⟩ := World.frozen?_of_block (w := w) (a := ⟨B, o, none⟩) (heap_alloc_old w x h)
theorem froz_drew (w : World) (a : Addr) : w.drew.frozen? a = w.frozen? a := rfl
theorem cell_g {w w' : World} {row : Option Nat} {B o : Nat} {v : Value} (hg : w.grownBy w' row) (h : w.cell? ⟨B, o, none⟩ = some v) (hne : row ≠ some B) : w'.cell? ⟨B, o, none⟩ = some v :=
  (World.cell?_of_block (w := w) (a := ⟨B, o, none⟩) (hg.block B (World.block_lt_of_cell? _ _ h) (fun e => hne e.symm))).trans h
theorem froz_g {w w' : World} {row : Option Nat} {B o : Nat} (hg : w.grownBy w' row) (h : B < w.heap.size) (hf : w.frozen? ⟨B, o, none⟩ = false) (hne : row ≠ some B) : w'.frozen? ⟨B, o, none⟩ = false :=
  (World.frozen?_of_block (w := w) (a := ⟨B, o, none⟩) (hg.block B h (fun e => hne e.symm))).trans hf
theorem One.g2 {w w' : World} {B : Nat} {t : TypeId} {v : Value} {o : Obj} (h : One w B t v) {row : Option Nat} (hg : (w.alloc o).drew.grownBy w' row) (hne : row ≠ some B) : One w' B t v :=
  One.grown (w := (w.alloc o).drew) (h.alloc o) hg hne
theorem grown_lt {w w' : World} {row : Option Nat} {B : Nat} {o : Obj} (h : B < w.heap.size) (hg : (w.alloc o).drew.grownBy w' row) : B < w'.heap.size := by
  have := hg.size; simp at this; omega

theorem own_far27 {w : World} {B size n : Nat} {v : Value} {xs : List Value} (h : w.ownsRow B 5 size v n xs) {g : Nat} {y u : Value} (hg : One w g 27 y) : (w.setCell ⟨g, 0, none⟩ u).ownsRow B 5 size v n xs := own_far h hg (by decide)
theorem at_ne {x : Option Nat} {gg H B : Nat} (a : x ≠ some B) (hlt : B < H) (hat : x = some gg ∨ gg = H) : some gg ≠ some B := by
  rintro h
  injection h with h
  subst h
  rcases hat with h | h
  · exact a h
  · omega
/-- The bytes of the page from fi on, behind an append. -/
theorem news_page {w w1 : World} {row : Option Nat} {o : Obj} {g fi te : Nat} {l : List UInt8} (hg : (w.alloc o).drew.grownBy w1 row) (hne : row ≠ some g) (hc : ∀ j u, l[j]? = some u → w.cell? ⟨g, j, none⟩ = some (bc u)) :
    ∀ j u, (((l.take te).drop fi).map bc)[j]? = some u → w1.cell? ((⟨g, fi, none⟩ : Addr).add j) = some u := by
  intro j u hu
  have e : (⟨g, fi, none⟩ : Addr).add j = ⟨g, fi + j, none⟩ := by unfold Addr.add; split <;> simp_all
  rw [e]
  rw [List.getElem?_map, List.getElem?_drop, List.getElem?_take] at hu
  split at hu
  · cases hx : l[fi + j]? with
    | none => rw [hx] at hu; cases hu
    | some x =>
      rw [hx] at hu
      have hw := hc _ _ hx
      have h1 : (w.alloc o).drew.cell? ⟨g, fi + j, none⟩ = some (bc x) := by
        show (w.alloc o).cell? _ = _
        rw [World.cell?_of_block (w := w) (a := ⟨g, fi + j, none⟩) (heap_alloc_old w o (World.block_lt_of_cell? _ _ hw))]
        exact hw
      exact (cell_g hg h1 hne).trans hu
  · cases hu
theorem ofInt_lit {fi te : Nat} (h : fi < te) (h32 : te ≤ 32) : bc (UInt8.ofNat (te - fi - 1)) = .int .u8 ((te : Int) - fi - 1) := by
  unfold bc
  have : (UInt8.ofNat (te - fi - 1)).toNat = te - fi - 1 := by rw [UInt8.toNat_ofNat']; omega
  rw [this]
  congr 1
  omega

set_option maxHeartbeats 8000000 in
set_option maxRecDepth 100000 in
theorem flush_yes (w : World) (base fi te B1 B2 B3 g c : Nat) (l done : List UInt8) (ov : Value) (hlt : fi < te) (hto : te ≤ 32) (h23 : B2 ≠ B3) (h1 : One w B1 3 (.int .i64 fi)) (h2 : One w B2 27 ov) (h3 : One w B3 27 (.slice (some ⟨g, 0, none⟩) 32 c))
    (hb2 : base ≤ B2) (hown : w.ownsRow base 5 1 ov done.length (done.map bc)) (hdl : done.length ≤ 1000) (hc : ∀ j u, l[j]? = some u → w.cell? ⟨g, j, none⟩ = some (bc u)) (hl : l.length = 32) (hg : g < base) (hc32 : 32 ≤ c) (hbase : base ≤ w.heap.size) :
    Calls Try.prog 37 #[.int .i64 te, .pointer (some ⟨B1, 0, none⟩), .pointer (some ⟨B2, 0, none⟩), .pointer (some ⟨B3, 0, none⟩)] w fun e w' => e = .returned (.tuple #[]) ∧
      ∃ ov', One w' B1 3 (.int .i64 fi) ∧ One w' B2 27 ov' ∧ One w' B3 27 (.slice (some ⟨g, 0, none⟩) 32 c) ∧ w'.ownsRow base 5 1 ov' (done ++ lits l fi te).length ((done ++ lits l fi te).map bc) ∧ Below base w w' := by
  obtain ⟨i0, hi, hz0, hz1, hz2⟩ := info_parts info5
  have a1 := own_ne hown h1 (by decide)
  have a2 := own_ne hown h2 (by decide)
  have a3 := own_ne hown h3 (by decide)
  have n12 : B1 ≠ B2 := fun e => by subst e; have := h1.symm.trans h2; injection this with this; injection this with _ h; cases h
  have n32 : B3 ≠ B2 := fun e => h23 e.symm
  have c1 := h1.cell
  have c2 := h2.cell
  have c3 := h3.cell
  have f2 := h2.frozen
  have l1 := h1.lt
  have l2 := h2.lt
  have l3 := h3.lt
  have H1 := Lib.hid h1
  have H2 := Lib.hid h2
  have H3 := Lib.hid h3
  have HO := Lib.hid hown
  have HC := Lib.hid hc
  have HL := Lib.hid hl
  have q1 : (fi : Int) < te := by omega
  have q2 : (0 : Int) ≤ fi := by omega
  have q3 : (te : Int) ≤ 32 := by omega
  have q4 : (fi : Int) ≤ te := by omega
  have q5 : IntKind.i64.wrap ((te : Int) - fi) = (te : Int) - fi := IntWalk.i64_in _ (by omega)
  have q6 : IntKind.i64.wrap ((te : Int) - fi - 1) = (te : Int) - fi - 1 := IntWalk.i64_in _ (by omega)
  have q7 : IntKind.u8.wrap ((te : Int) - fi - 1) = (te : Int) - fi - 1 := IntWalk.u8_in _ (by omega)
  have q8 : (te : Int) ≤ c := by omega
  have q9 : ¬ c = fi := by omega
  have ag : ov.ownBlock ≠ some g := fun e => by have := (HO.out.lt g e).1; omega
  have q10 : ((te : Int) - fi).toNat = te - fi := by omega
  have d1 : decide ((fi : Int) < te) = true := decide_eq_true (by omega)
  clear h1 h2 h3 hown hc hl
  go_enter Try.func37, Try.ntmps37
  go_wp2_with fail
  go_region_law
    (first
      | (revert hgrow; intro hgrow
         refine step_append_lies _ (by rfl) _ _ _ (by rfl) base 5 i0 _ 1 1 Try.underlying27 hi hz0 hz1 hz2 rfl (by omega) _ (done.length + 1) (done.map bc ++ [.int .u8 ((te : Int) - fi - 1)]) (by rfl) hown1
          ⟨g, fi, none⟩ (te - fi) (c - fi) (((l.take te).drop fi).map bc) (by rfl) (by have := HL.out; simp; omega) (news_page hgrow ag HC.out) (bytes_one _)
          (by omega) (by unfold maxLen; omega) (by omega) (by have := hgrow.size; simp at this; omega) _ rfl ?_
         intro g2 cap2 w2 hown2 hgrow2 hat2 hlt2
         have R1 := Lib.hid (P1.out.grown hgrow2 (at_ne a1 (Nat.lt_succ_of_lt l1) hat))
         have R2 := Lib.hid (P2.out.grown hgrow2 (at_ne a2 (Nat.lt_succ_of_lt l2) hat))
         have R3 := Lib.hid (P3.out.grown hgrow2 (at_ne a3 (Nat.lt_succ_of_lt l3) hat))
         have cx2 := R2.out.cell
         have fx2 := R2.out.frozen)
      | (refine step_append_lies _ (by rfl) _ _ _ (by rfl) base 5 i0 _ 1 1 Try.underlying27 hi hz0 hz1 hz2 rfl (by omega) ov done.length (done.map bc) (by rfl) (by first | exact (HO.out.alloc _).drew | exact HO.out.drew.alloc _)
          ⟨w.heap.size, 0, none⟩ 1 1 [.int .u8 ((te : Int) - fi - 1)] (by rfl) (by rfl) (World.news_of_block (cs := #[.int .u8 ((te : Int) - fi - 1)]) (t := 5) (fr := (0, 0)) (heap_alloc_new w _)) (by simp [Value.oneCell'])
          (by omega) (by unfold maxLen; omega) (by omega) (by simp; omega) (w.heap.size + 1) (by simp) ?_
         intro gg cap w1 hown1 hgrow hat hlt
         have P1 := Lib.hid (H1.out.g2 hgrow a1)
         have P2 := Lib.hid (H2.out.g2 hgrow a2)
         have P3 := Lib.hid (H3.out.g2 hgrow a3)
         have cy1 := P1.out.cell
         have cy2 := P2.out.cell
         have cy3 := P3.out.cell
         have fy2 := P2.out.frozen))
  all_goals
    go_end0
    have hb : base ≤ (w.alloc (Obj.cells #[Value.int IntKind.u8 ((te : Int) - fi - 1)] 5)).drew.heap.size := by simp; omega
    have B0 : Below base w (w.alloc (Obj.cells #[Value.int IntKind.u8 ((te : Int) - fi - 1)] 5)).drew := ((Below.refl base w).alloc hbase _).drew
    have B1' := B0.grown hgrow hb (fun r hr => (HO.out.lt r hr).1)
    have B2' := B1'.grown hgrow2 (Nat.le_trans hb hgrow.size) (fun r hr => (hown1.lt r hr).1)
    refine ⟨rfl, _, R1.out.far n12, R2.out.set_, R3.out.far n32, ?_, B2'.setCell hb2 _⟩
    have hl' := HL.out
    have e1 : (done ++ lits l fi te).length = done.length + 1 + (te - fi) := by
      unfold lits; rw [if_pos (by omega)]; simp; omega
    have e2 : (done ++ lits l fi te).map bc = done.map bc ++ [.int .u8 ((te : Int) - fi - 1)] ++ ((l.take te).drop fi).map bc := by
      unfold lits; rw [if_pos (by omega), List.map_append, List.map_cons, ofInt_lit (by omega) hto]; simp
    rw [e1, e2]
    exact own_far27 hown2 R2.out
end Go.Proofs.Ytfdmmbalfjcehaa
