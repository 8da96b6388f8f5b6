/- Contract of bytes.Repeat of one byte; bytes that are only read. -/
import Derived.Test.YtfdmmbalfjcehaaPi
import Derived.Lib.MakeNoZero
import Derived.Laws.CopyOwn
import Derived.Laws.Externs
import Derived.Deep.RegionLaw
import Derived.Deep.DeepCutAuto
namespace Go.Proofs.Ytfdmmbalfjcehaa
open Go.RowKit
set_option linter.unusedVariables false
set_option linter.unusedSimpArgs false
attribute [local go_sem] lt_more lt_more2 lt_more3 lt_more4 lt_more5 lt_more6 lt_more7 lt_more8

theorem heap_drewN' (w : World) (n : Nat) : (w.drewN n).heap = w.heap := rfl
/-- A slice that reads as a list of bytes, wherever it begins. -/
def ByR (w : World) (v : Value) (l : List UInt8) : Prop :=
  ∃ A c, v = .slice A l.length c ∧ l.length ≤ c ∧ c ≤ maxLen ∧ (A = none → l = [] ∧ c = 0) ∧ ∀ a, A = some a → ∃ g o, a = ⟨g, o, none⟩ ∧ g < w.heap.size ∧ ∀ j u, l[j]? = some u → w.cell? ⟨g, o + j, none⟩ = some (bc u)
theorem ByV.toR {w : World} {v : Value} {l : List UInt8} (h : ByV w v l) : ByR w v l := by
  obtain ⟨A, c, hv, h1, h2, hn, hs⟩ := own_form h
  refine ⟨A, c, hv, h1, h2, fun e => ?_, fun a ha => ?_⟩
  · obtain ⟨e1, e2⟩ := hn e
    exact ⟨List.eq_nil_of_length_eq_zero e1, e2⟩
  · obtain ⟨g, hg, hl, _, hc⟩ := hs a ha
    exact ⟨g, 0, hg, hl, fun j u hu => by rw [Nat.zero_add]; exact hc j _ (by simp [hu])⟩
theorem ByR.keep {w w' : World} {v : Value} {l : List UInt8} (h : ByR w v l) (hb : Below w.heap.size w w') : ByR w' v l := by
  obtain ⟨A, c, hv, h1, h2, hn, hs⟩ := h
  refine ⟨A, c, hv, h1, h2, hn, fun a ha => ?_⟩
  obtain ⟨g, o, hg, hl, hc⟩ := hs a ha
  exact ⟨g, o, hg, Nat.lt_of_lt_of_le hl hb.size, fun j u hu => (hb.cell (p := ⟨g, o + j, none⟩) hl).trans (hc j u hu)⟩

set_option maxHeartbeats 4000000 in
set_option maxRecDepth 100000 in
theorem repeat_any (w : World) (g o c k : Nat) (x : UInt8) (h1 : 1 ≤ k) (h2 : k ≤ 32) (hx : w.cell? ⟨g, o, none⟩ = some (bc x)) :
    Calls Try.prog 36 #[.slice (some ⟨g, o, none⟩) 1 c, .int .i64 k] w fun e w' => (∃ v', e = .returned v' ∧ ByR w' v' (List.replicate k x)) ∧ Below w.heap.size w w' := by
  have HB := Lib.hid (Below.refl w.heap.size w)
  have HM : ∀ W, Calls Try.prog 51 #[.int .u64 1, .int .u64 k] W fun e w' => e = .returned (.tuple #[.int .u64 0, .int .u64 k]) ∧ W = w' := fun W =>
    (Try.bits_Mul 1 k (by omega) (by omega) W).mono (by
      rintro e w' ⟨rfl, rfl⟩
      refine ⟨?_, rfl⟩
      rw [Nat.one_mul, Nat.div_eq_of_lt (by omega), Nat.mod_eq_of_lt (by omega)]; rfl)
  have HM' := Lib.hid HM
  obtain ⟨cs, hrunM, hle, hmax⟩ := Lib.run_makeNoZero (P := Try.prog) w #[3] 27 5 Try.underlying27 k (by omega)
  have hcall : (callFunc 52 #[.int .i64 (k : Int)]).run Try.prog w = .ok (.value (.slice (some ⟨w.heap.size, 0, none⟩) k cs.size)) ((w.alloc (.cells cs 5)).drewN 2) := by
    rw [run_callFunc_extern Try.func52 (by kernel_rfl) (by kernel_rfl) (by kernel_rfl) (e := Extern.BytealgMakeNoZero.makeNoZero #[3] #[27]) (by kernel_rfl), hrunM]
    rfl
  have i0 : (0 : Int) ≤ (k : Int) := by omega
  have i1 : (k : Int) ≤ (cs.size : Int) := by omega
  have b1 : ((k : Int) == 0) = false := by simp; omega
  have b2 : (1 : Int) ≤ k := by omega
  have b3 : (k : Int) ≤ 32 := by omega
  have d1 : decide ((k : Int) < 0) = false := decide_eq_false (by omega)
  have d2 : decide ((8192 : Int) < k) = false := decide_eq_false (by omega)
  have d3 : decide ((9223372036854775807 : Int) < k) = false := decide_eq_false (by omega)
  have HX := Lib.hid hx
  have HMx := Lib.hid hmax
  have hg := World.block_lt_of_cell? _ _ hx
  simp only [] at hg
  clear hrunM HM hmax hx
  go_enter Try.func36, Try.ntmps36
  go_upto_region 17 with ((go_at_call 51); (with_reducible refine (HM'.out _).mono ?_); rintro e w1 ⟨rfl, rfl⟩)
  go_wp2_with (refine wpList_copy_splice (o := ⟨some 60, _, _, _, _, _⟩) rfl (.tmp 58) (.tmp 59) 27 27 rfl 5 Try.underlying27 (by kernel_rfl) (some ⟨w.heap.size, 0, none⟩) (some ⟨g, o, none⟩) k k 1 c rfl rfl w.heap.size 0 cs.toList 5 ?c1 [bc x] ?c2 ?c3 ?c4 ?c5 w.heap.size w ?c6 (Nat.le_refl _) ?_)
  case c1 => simp only [heap_drewN']; exact heap_alloc_new w _
  case c2 => simp [Nat.min_def]; omega
  case c3 =>
    intro j v hj
    cases j with
    | zero => simp at hj; subst hj; exact HX.out
    | succ j => simp at hj
  case c4 => simp; omega
  case c5 => intro v hv; simp at hv; subst hv; rfl
  case c6 => exact (by repeat (with_reducible first | exact HB.out | exact Below.refl _ _ | apply bA | apply bD | apply bN | refine bS ?_ (by first | assumption | (simp only []; omega) | omega)))
  intro w1 hh1 hb1
  have HB1 := Lib.hid hb1
  clear HB hb1
  have HB := HB1
  clear HB1 HX HMx hcall HM'
  have hk1 : ((1 : Nat) : Int) = 1 := rfl
  go_wp2_with fail
  go_loopw [10] (fun b wr => ∃ (m : Nat) (C : List Value), 1 ≤ m ∧ m ≤ k ∧ b = .int .i64 m ∧ Below w.heap.size w wr ∧ Hid (wr.heap[w.heap.size]? = some (.cells C.toArray 5 (0, 0)) ∧ k ≤ C.length ∧ C.take m = List.replicate m (bc x))) (fun b _ => k - (intOf b).toNat)
  case atStart => exact ⟨1, splice cs.toList 0 [bc x], Nat.le_refl _, h1, rfl, (by repeat (with_reducible first | exact HB.out | exact Below.refl _ _ | apply bA | apply bD | apply bN | refine bS ?_ (by first | assumption | (simp only []; omega) | omega))), hh1.out, by simp [splice]; omega, by simp [splice]⟩
  case round =>
    obtain ⟨m, C, hm1, hm2, rfl, hb, hC⟩ := hrel
    clear HB hh1
    have HB := Lib.hid hb
    clear hb
    by_cases hlt : m < k
    · have q1 : (m : Int) < k := by omega
      have q2 : (0 : Int) ≤ m := by omega
      have q3 : ¬ k = m := by omega
      have q4 : min (m : Int) (k : Int) = m := by omega
      obtain ⟨hC1, hC2, hC3⟩ := hC.out
      obtain ⟨cs', hcs'⟩ : ∃ cs', cs' = List.replicate (Nat.min m (k - m)) (bc x) := ⟨_, rfl⟩
      have hlen : cs'.length = Nat.min m (k - m) := by rw [hcs', List.length_replicate]
      have mle : Nat.min m (k - m) ≤ m := Nat.min_le_left _ _
      have mle2 : Nat.min m (k - m) ≤ k - m := Nat.min_le_right _ _
      have mpos : 1 ≤ Nat.min m (k - m) := Nat.le_min.2 ⟨hm1, by omega⟩
      have k1 : Hid (∀ (n j : Nat) (v : Value), cs'[j]? = some v → (wr.drewN n).cell? ⟨w.heap.size, j, none⟩ = some v) := fun n j v hv => by
        have hj : j < Nat.min m (k - m) := by have := (List.getElem?_eq_some_iff.1 hv).1; rwa [hlen] at this
        have hjm : j < m := by omega
        refine (cell_of_row wr _ j _ 5 (0, 0) hC1).trans ?_
        have : C[j]? = (List.replicate m (bc x))[j]? := by rw [← hC3, List.getElem?_take, if_pos hjm]
        rw [hcs', List.getElem?_replicate, if_pos hj] at hv
        simp [this, hjm, hv]
      have k2 : Hid (m + cs'.length ≤ C.length) := by rw [hlen]; show m + _ ≤ _; omega
      have k3 : Hid (∀ v ∈ cs', v.oneCell' = true) := fun v hv => by rw [hcs'] at hv; rw [List.eq_of_mem_replicate hv]; rfl
      have k4 : Hid (cs'.length = Nat.min m (k - m)) := hlen
      have k5 : Hid (cs' = List.replicate (Nat.min m (k - m)) (bc x)) := hcs'
      have k6 : Hid (∀ n : Nat, (wr.drewN n).heap[w.heap.size]? = some (.cells C.toArray 5 (0, 0))) := fun n => hC1
      have k7 : Hid (∀ n : Nat, Below w.heap.size w (wr.drewN n)) := fun n => bN HB.out
      have k8 : Hid (k ≤ C.length ∧ C.take m = List.replicate m (bc x)) := ⟨hC2, hC3⟩
      clear hC hC1 hC2 hC3 hlen hcs'
      go_wp2_with fail
      go_region_law (refine step_copy_splice rfl (.tmp 70) (.tmp 73) 27 27 rfl 5 Try.underlying27 (by kernel_rfl) (some ⟨w.heap.size, m, none⟩) (some ⟨w.heap.size, 0, none⟩) (k - m) (k - m) m k (by simp [Act.eval, Act.put]) (by simp [Act.eval, Act.put]) w.heap.size m C 5 (k6.out 1) cs' k4.out (fun _ => ⟨rfl, _, rfl, fun j v hv => (by rw [add_zero_add]; exact k1.out 1 j v hv)⟩) k2.out k3.out w.heap.size w (k7.out 1) (Nat.le_refl _) ?_; intro w2 hh2 hb2)
      have lb1 : cs'.length ≤ 32 := by rw [k4.out]; omega
      have lb2 : 1 ≤ cs'.length := by rw [k4.out]; exact mpos
      have lb3 : m + cs'.length ≤ k := by rw [k4.out]; omega
      have HB2 := Lib.hid hb2
      clear HB hb2
      have HB := HB2
      clear HB2
      go_simp
      go_roundw
      case rel =>
        (repeat apply Exists.intro)
        refine ⟨?rel2, rfl⟩
        refine ⟨m + cs'.length, splice C m cs', by omega, lb3, ?_, (by repeat (with_reducible first | exact HB.out | exact Below.refl _ _ | apply bA | apply bD | apply bN | refine bS ?_ (by first | assumption | (simp only []; omega) | omega))), hh2.out, ?_, ?_⟩
        · show Value.int .i64 (IntKind.i64.wrap ((m : Int) + (cs'.length : Int))) = _
          rw [IntWalk.i64_in _ (by omega)]; go_num
        · have := k8.out.1; have := k2.out; simp only [splice, List.length_append, List.length_take, List.length_drop]; omega
        · have h3 := k8.out.2
          have hCm : m ≤ C.length := by have := k8.out.1; omega
          simp only [splice]
          rw [List.take_append, List.length_take, Nat.min_eq_left hCm, h3, List.take_of_length_le (by simp), show m + cs'.length - m = cs'.length by omega, List.take_left, k5.out, ← List.replicate_append_replicate, List.length_replicate]
      case measure =>
        show k - (IntKind.i64.wrap ((m : Int) + (cs'.length : Int))).toNat < k - ((m : Int)).toNat
        rw [IntWalk.i64_in _ (by omega)]; omega
    · have e : m = k := by omega
      subst e
      go_wp2
      go_ret
      refine ⟨⟨.slice (some ⟨w.heap.size, 0, none⟩) m m, rfl, ⟨some ⟨w.heap.size, 0, none⟩, m, by rw [List.length_replicate], by simp, by simp [maxLen]; omega, by simp, fun a ha => ?_⟩⟩, (by repeat (with_reducible first | exact HB.out | exact Below.refl _ _ | apply bA | apply bD | apply bN | refine bS ?_ (by first | assumption | (simp only []; omega) | omega)))⟩
      obtain rfl := Option.some.inj ha
      obtain ⟨hC1, hC2, hC3⟩ := hC.out
      refine ⟨_, _, rfl, (Array.getElem?_eq_some_iff.1 hC1).1, fun j u hu => ?_⟩
      rw [Nat.zero_add, cell_of_row _ _ j _ 5 (0, 0) hC1]
      have hj : j < m := by have := (List.getElem?_eq_some_iff.1 hu).1; simpa using this
      have : C[j]? = (List.replicate m (bc x))[j]? := by rw [← hC3, List.getElem?_take, if_pos hj]
      simp [hj] at hu
      simp [this, hj, hu]
end Go.Proofs.Ytfdmmbalfjcehaa
