/- Contract of dPoolPage: the page of an operation. -/
import Derived.Test.YtfdmmbalfjcehaaFa
namespace Go.Proofs.Ytfdmmbalfjcehaa
open Go.RowKit
set_option linter.unusedVariables false
set_option linter.unusedSimpArgs false
attribute [local go_sem] lt_more lt_more2 lt_more3 lt_more4 lt_more5 lt_more6 lt_more7 lt_more8

/-- A struct of four cells (an operation), whole, in a world. -/
def Four (w : World) (B : Nat) (a b c d : Value) : Prop := w.heap[B]? = some (.cells #[a, b, c, d] 37 (0, 0))
theorem Four.lt {w : World} {B : Nat} {a b c d : Value} (h : Four w B a b c d) : B < w.heap.size := (Array.getElem?_eq_some_iff.1 h).1
theorem Four.keep {W w1 : World} {B : Nat} {a b c d : Value} (h : Four W B a b c d) (hb : Below W.heap.size W w1) : Four w1 B a b c d := (hb.block B h.lt).trans h
theorem Four.cells {w : World} {B : Nat} {a b c d : Value} (h : Four w B a b c d) : w.cell? ⟨B, 0, none⟩ = some a ∧ w.cell? ⟨B, 1, none⟩ = some b ∧ w.cell? ⟨B, 2, none⟩ = some c ∧ w.cell? ⟨B, 3, none⟩ = some d :=
  ⟨cell_of_row w B 0 _ 37 (0, 0) h, cell_of_row w B 1 _ 37 (0, 0) h, cell_of_row w B 2 _ 37 (0, 0) h, cell_of_row w B 3 _ 37 (0, 0) h⟩
theorem u8_add (x : UInt8) (k : Nat) : IntKind.u8.wrap ((x.toNat : Int) + k) = ((x + UInt8.ofNat k).toNat : Int) := by
  rw [IntKind.wrap_u8, UInt8.toNat_add, UInt8.toNat_ofNat']; omega

theorem u8_cell (x : UInt8) (k : Nat) : Value.int .u8 (((x.toNat : Int) + k) % 256) = bc (x + UInt8.ofNat k) := by
  unfold bc; rw [← u8_add, IntKind.wrap_u8]

set_option maxHeartbeats 8000000 in
set_option maxRecDepth 100000 in
theorem poolPage_any (w : World) (a b x d : UInt8) :
    Calls Try.prog 14 #[.agg #[bc a, bc b, bc x, bc d]] w fun e w' => (∃ (v' : Value) (l : List UInt8), e = .returned v' ∧ ByV w' v' l ∧ l.length = 32 ∧ (d.toNat % 8 = 0 → l = List.replicate 32 x)) ∧ Below w.heap.size w w' := by
  have HB := Lib.hid (Below.refl w.heap.size w)
  obtain ⟨m, hm⟩ : ∃ m, m = d.toNat % 8 := ⟨_, rfl⟩
  have hm8 : m < 8 := by omega
  have HM := Lib.hid hm
  have hd256 := bc_hi d
  have s0 : (d.toNat : Int) % 8 = m := by omega
  have s1 : IntKind.i64.wrap (d.toNat : Int) = d.toNat := IntWalk.i64_in _ (by omega)
  rw [← hm]
  clear hm
  go_enter Try.func14, Try.ntmps14
  go_wp2_with fail
  ((go_at_call 28); (with_reducible refine (page_any _ x).mono ?_); rintro e w1 ⟨⟨v', rfl, ho⟩, hb1⟩; (have HB1 := Lib.hid (bT (w := w) ((by repeat (with_reducible first | exact HB.out | exact Below.refl _ _ | apply bA | apply bD | apply bN | refine bS ?_ (by first | assumption | (simp only []; omega) | omega)))) hb1)); clear HB; (have HB := HB1); clear HB1; (have hbb := HB.out); skip; (have TX := Lib.hid (Four.keep (B := w.heap.size) (a := bc a) (b := bc b) (c := bc x) (d := bc d) (by unfold Four; exact heap_alloc_new w _) hb1)); (obtain ⟨g, c, rfl, hg1, hg2⟩ := ho.form (by simp)); (have HO := Lib.hid ho); clear ho; clear hb1 hbb; (obtain ⟨wl, rfl⟩ : ∃ wl : World, wl = w1 := ⟨_, rfl⟩); skip; skip)
  go_wp2_with fail
  have hle := HB.out.size
  have HO0 := Lib.hid (show wl.ownsRow w.heap.size 5 1 (.slice (some ⟨g, 0, none⟩) 32 c) 32 ((List.replicate 32 x).map bc) from by
    have h := own_mono HO.out (b' := w.heap.size) (by simp)
    simpa using h)
  have hgw : w.heap.size + 1 ≤ g := by simpa using hg1
  have hgn : w.heap.size ≠ g := by omega
  have hgl : w.heap.size ≤ g := by omega
  clear HO hg1 hle
  go_loopw [4] (fun i wr => ∃ (k : Nat) (l : List UInt8), k ≤ 32 ∧ i = .int .i64 k ∧ l.length = 32 ∧ Hid (m = 0 → l = List.replicate 32 x) ∧ Hid (wr.ownsRow w.heap.size 5 1 (.slice (some ⟨g, 0, none⟩) 32 c) 32 (l.map bc)) ∧ Hid (Four wr w.heap.size (bc a) (bc b) (bc x) (bc d)) ∧ Hid (Below w.heap.size w wr)) (fun i _ => 32 - (intOf i).toNat)
  case atStart => exact ⟨0, _, by omega, rfl, by simp, Lib.hid (fun _ => rfl), HO0, TX, HB⟩
  case round =>
    obtain ⟨k, l, hk, rfl, hl, hl0, hown, hfour, hb⟩ := hrel
    clear HB TX HO0
    have HB := hb
    have HL := Lib.hid hl
    clear hb
    have c3 : wr.cell? ⟨w.heap.size, 3, none⟩ = some (.int .u8 (d.toNat : Int)) := hfour.out.cells.2.2.2
    by_cases hlt : k < 32
    · have d1 : decide ((k : Int) < 32) = true := decide_eq_true (by omega)
      obtain ⟨y, hy⟩ : ∃ y, l[k]? = some y := ⟨l[k]'(by omega), List.getElem?_eq_getElem _⟩
      have cy : wr.cell? ⟨g, k, none⟩ = some (.int .u8 (y.toNat : Int)) := by
        rw [hown.out.cellAt _ (by omega), List.getElem?_map, hy]; rfl
      have fy : wr.frozen? ⟨g, k, none⟩ = false := hown.out.frozenAt k
      have uy := u8_add y k
      have u2 : IntKind.u8.wrap (k : Int) = k := IntWalk.u8_in _ (by omega)
      have hi1 : (k : Int) < 32 := by omega
      clear hl hy
      by_cases hm0 : m = 0
      · have s0' : (d.toNat : Int) % 8 = 0 := by omega
        have HM0 := Lib.hid hm0
        clear hm0 s0
        go_wp2
        all_goals
          go_roundw
          case rel => exact ⟨k + 1, l, by omega, by go_num, HL.out, hl0, hown, hfour, HB⟩
          case measure => simp [intOf]; omega
      · have nm : ((m : Int) == 0) = false := by simp; omega
        obtain ⟨q, hq⟩ : ∃ q, q = k % m := ⟨_, rfl⟩
        have t1 : (k : Int) % (m : Int) = (q : Int) := by omega
        clear hq
        have pm : (1 : Int) ≤ m := by omega
        have HM0 := Lib.hid hm0
        clear hm0
        go_wp2
        all_goals
          go_roundw
          case rel =>
            first
              | exact ⟨k + 1, l, by omega, by go_num, HL.out, hl0, hown, hfour, HB⟩
              | (refine ⟨k + 1, l.set k (y + UInt8.ofNat k), by omega, by go_num, by rw [List.length_set]; exact HL.out, Lib.hid (fun h => absurd h HM0.out), Lib.hid ?_, Lib.hid ?_, Lib.hid ?_⟩
                 · have h := (hown.out.stored k (bc (y + UInt8.ofNat k))).1
                   rw [List.map_set, u8_cell]
                   exact h
                 · exact (Below.heap_setCell _ _ _ _ hgn).trans hfour.out
                 · exact bS HB.out hgl)
          case measure => simp [intOf]; omega
    · have d1 : decide ((k : Int) < 32) = false := decide_eq_false (by omega)
      go_wp2
      go_ret
      exact ⟨⟨_, l, rfl, (by unfold ByV; rw [hl]; exact own_mono hown.out (Nat.zero_le _)), hl, hl0.out⟩, HB.out⟩
end Go.Proofs.Ytfdmmbalfjcehaa
