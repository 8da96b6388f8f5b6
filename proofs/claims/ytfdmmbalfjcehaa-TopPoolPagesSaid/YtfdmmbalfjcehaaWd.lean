/- The words of this seat: how a pool, its frames and the bytes of a page read in memory, and that what lies below a call stays. -/
import Derived.Test.YtfdmmbalfjcehaaProg
import Derived.WalkKit
import Derived.KernelRfl
import Derived.Deep.Draws
import Derived.Deep.QuietTactic
import Derived.BigQuiet
namespace Go.Proofs.Ytfdmmbalfjcehaa
open Go.RowKit

structure It where
  slot : Int
  data : List UInt8
  deriving DecidableEq

structure Fr where
  num : Int
  a : It
  b : It
  deriving DecidableEq

def bc (u : UInt8) : Value := .int .u8 (u.toNat : Int)
theorem bc_lo (u : UInt8) : (0 : Int) ≤ u.toNat := by omega
theorem bc_hi (u : UInt8) : (u.toNat : Int) < 256 := by have := u.toNat_lt; omega

def ByV (w : World) (v : Value) (l : List UInt8) : Prop := w.ownsRow 0 5 1 v l.length (l.map bc)

structure Rw where
  num : Int
  s0 : Int
  v0 : Value
  s1 : Int
  v1 : Value
def Rw.cells (r : Rw) : List Value := [.int .i64 r.num, .int .i64 r.s0, r.v0, .int .i64 r.s1, r.v1]
def RelR (w : World) (r : Rw) (f : Fr) : Prop := r.num = f.num ∧ r.s0 = f.a.slot ∧ ByV w r.v0 f.a.data ∧ r.s1 = f.b.slot ∧ ByV w r.v1 f.b.data
def FrsV (w : World) (v : Value) (fs : List Fr) : Prop :=
  ∃ rows : List Rw, rows.length = fs.length ∧ w.ownsRow 0 55 5 v fs.length (rows.flatMap Rw.cells) ∧ ∀ (k : Nat) (r : Rw) (f : Fr), rows[k]? = some r → fs[k]? = some f → RelR w r f

/-! what is owned stays where the world below is as it was -/
theorem own_below {w w' : World} {e size n : Nat} {v : Value} {xs : List Value} (h : w.ownsRow 0 e size v n xs) (hb : Below w.heap.size w w') : w'.ownsRow 0 e size v n xs := by
  refine ⟨h.1, ?_⟩
  rcases h.2 with hn | ⟨g, cap, cur, hv, hg, hh, r⟩
  · exact .inl hn
  · exact .inr ⟨g, cap, cur, hv, hg, (hb.block g (Array.getElem?_eq_some_iff.1 hh).1).trans hh, r⟩
theorem ByV.below {w w' : World} {v : Value} {l : List UInt8} (h : ByV w v l) (hb : Below w.heap.size w w') : ByV w' v l := own_below h hb
theorem RelR.below {w w' : World} {r : Rw} {f : Fr} (h : RelR w r f) (hb : Below w.heap.size w w') : RelR w' r f :=
  ⟨h.1, h.2.1, h.2.2.1.below hb, h.2.2.2.1, h.2.2.2.2.below hb⟩
theorem FrsV.below {w w' : World} {v : Value} {fs : List Fr} (h : FrsV w v fs) (hb : Below w.heap.size w w') : FrsV w' v fs := by
  obtain ⟨rows, hl, ho, hr⟩ := h
  exact ⟨rows, hl, own_below ho hb, fun k r f h1 h2 => (hr k r f h1 h2).below hb⟩

theorem own_form {w : World} {e size n : Nat} {v : Value} {xs : List Value} (h : w.ownsRow 0 e size v n xs) :
    ∃ A c, v = .slice A n c ∧ n ≤ c ∧ c ≤ maxLen ∧ (A = none → n = 0 ∧ c = 0) ∧ (∀ a, A = some a → ∃ g, a = ⟨g, 0, none⟩ ∧ g < w.heap.size ∧ (∃ cur, w.heap[g]? = some (.cells cur e (0, 0)) ∧ cur.size = c * size) ∧ ∀ j u, xs[j]? = some u → w.cell? ⟨g, j, none⟩ = some u) := by
  rcases h.2 with ⟨rfl, rfl⟩ | ⟨g, cap, cur, rfl, hg, hh, h1, h2, h3, h4⟩
  · exact ⟨none, 0, rfl, Nat.le_refl _, by simp [maxLen], fun _ => ⟨rfl, rfl⟩, fun a ha => by cases ha⟩
  · refine ⟨_, cap, rfl, h1, h2, (fun h => by cases h), fun a ha => ?_⟩
    obtain rfl := Option.some.inj ha
    refine ⟨g, rfl, (Array.getElem?_eq_some_iff.1 hh).1, ⟨cur, hh, h3⟩, fun j u hu => ?_⟩
    have := h.cells (g := g) rfl j u hu
    rwa [show (⟨g, 0, none⟩ : Addr).add j = ⟨g, j, none⟩ from by unfold Addr.add; split <;> simp_all] at this

theorem flat_get (rows : List Rw) (k : Nat) (r : Rw) (h : rows[k]? = some r) (j : Nat) (hj : j < 5) : (rows.flatMap Rw.cells)[k * 5 + j]? = r.cells[j]? := by
  induction rows generalizing k with
  | nil => simp at h
  | cons x xs ih =>
    cases k with
    | zero =>
      simp at h; subst h
      rw [List.flatMap_cons, List.getElem?_append_left (by simp [Rw.cells]; omega)]
      simp
    | succ k =>
      simp at h
      rw [List.flatMap_cons, List.getElem?_append_right (by simp [Rw.cells]; omega)]
      have := ih k h
      rw [← this]; congr 1; simp [Rw.cells]; omega

/-- The cells of frame k. -/
theorem FrsV.at_ {w : World} {A : Option Addr} {n c k : Nat} {fs : List Fr} {f : Fr} (h : FrsV w (.slice A n c) fs) (hk : fs[k]? = some f) :
    ∃ g v0 v1, A = some ⟨g, 0, none⟩ ∧ g < w.heap.size ∧ ByV w v0 f.a.data ∧ ByV w v1 f.b.data ∧
      w.cell? ⟨g, k * 5, none⟩ = some (.int .i64 f.num) ∧ w.cell? ⟨g, k * 5 + 1, none⟩ = some (.int .i64 f.a.slot) ∧ w.cell? ⟨g, k * 5 + 2, none⟩ = some v0 ∧
      w.cell? ⟨g, k * 5 + 3, none⟩ = some (.int .i64 f.b.slot) ∧ w.cell? ⟨g, k * 5 + 4, none⟩ = some v1 := by
  obtain ⟨rows, hl, ho, hr⟩ := h
  obtain ⟨A', c', hv, _, _, hn, hs⟩ := own_form ho
  obtain ⟨rfl, rfl, rfl⟩ : A = A' ∧ n = fs.length ∧ c = c' := by injection hv with h1 h2 h3; exact ⟨h1, h2, h3⟩
  have hlt : k < fs.length := (List.getElem?_eq_some_iff.1 hk).1
  cases A with
  | none => have := hn rfl; omega
  | some a =>
    obtain ⟨g, rfl, hg, _, hc⟩ := hs a rfl
    have hrk : rows[k]? = some rows[k] := List.getElem?_eq_getElem (by omega)
    obtain ⟨e1, e2, b1, e3, b2⟩ := hr k _ f hrk hk
    have F := fun j hj => flat_get rows k _ hrk j hj
    refine ⟨g, _, _, rfl, hg, b1, b2, ?_, ?_, ?_, ?_, ?_⟩
    · exact hc _ _ (by rw [show k * 5 = k * 5 + 0 from rfl, F 0 (by omega), ← e1]; rfl)
    · exact hc _ _ (by rw [F 1 (by omega), ← e2]; rfl)
    · exact hc _ _ (by rw [F 2 (by omega)]; rfl)
    · exact hc _ _ (by rw [F 3 (by omega), ← e3]; rfl)
    · exact hc _ _ (by rw [F 4 (by omega)]; rfl)

theorem FrsV.form {w : World} {v : Value} {fs : List Fr} (h : FrsV w v fs) : ∃ A c, v = .slice A fs.length c ∧ fs.length ≤ c ∧ c ≤ maxLen := by
  obtain ⟨rows, hl, ho, hr⟩ := h
  obtain ⟨A, c, hv, h1, h2, _⟩ := own_form ho
  exact ⟨A, c, hv, h1, h2⟩
theorem ByV.form {w : World} {v : Value} {l : List UInt8} (h : ByV w v l) : ∃ A c, v = .slice A l.length c ∧ l.length ≤ c ∧ c ≤ maxLen := by
  obtain ⟨A, c, hv, h1, h2, _⟩ := own_form h
  exact ⟨A, c, hv, h1, h2⟩

/-! what a valid pool is -/
def It.absent (x : It) : Prop := x.slot = -1 ∧ x.data = []
def It.ok (x : It) : Prop := 0 ≤ x.slot ∧ x.slot < 64 ∧ 1 ≤ x.data.length ∧ x.data.length ≤ 32
def Fr.ok (f : Fr) : Prop :=
  (0 ≤ f.num ∧ f.num < 256) ∧ (f.a.absent ∨ f.a.ok) ∧ (f.b.absent ∨ f.b.ok) ∧ ¬ (f.a.absent ∧ f.b.absent) ∧ f.a.data.length + f.b.data.length ≤ 32
instance (x : It) : Decidable x.absent := inferInstanceAs (Decidable (_ ∧ _))
instance (x : It) : Decidable x.ok := inferInstanceAs (Decidable (_ ∧ _))
def Fr.its (f : Fr) : List It := [f.a, f.b]
def items (fs : List Fr) : List It := (fs.flatMap Fr.its).filter fun x => decide (¬ x.absent)
def Valid (fs : List Fr) : Prop :=
  fs.length ≤ 4 ∧ (∀ f ∈ fs, f.ok) ∧ (fs.map Fr.num).Pairwise (· < ·) ∧ ((items fs).map It.slot).Nodup
end Go.Proofs.Ytfdmmbalfjcehaa
