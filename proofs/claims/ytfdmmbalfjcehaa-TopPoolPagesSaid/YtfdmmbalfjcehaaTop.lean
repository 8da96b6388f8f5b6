/- For every list of operations the law TopPoolPages answers true, and its argument reads afterwards as it read before. No condition. -/
import Derived.Test.YtfdmmbalfjcehaaRows
import Derived.Test.YtfdmmbalfjcehaaGf
import Derived.WalkKit
import Derived.ProofKit
import Derived.OpenShut
import Derived.ShutString
import Derived.ChangeOld
import Derived.Below
import Derived.Deep.Slices
namespace Go.Proofs.Ytfdmmbalfjcehaa
open Go.ChangeShapes Go.WideShapes Go.ChangeAt Go.RowKit
set_option linter.unusedVariables false

theorem own : ownKnob Try.prog.godebug = none := by kernel_rfl
theorem laidOut : laidOutB Try.prog = true := by kernel_rfl
theorem cells37 : Try.prog.cellsOf 37 = 4 := by kernel_rfl
theorem cells5 : Try.prog.cellsOf 5 = 1 := by kernel_rfl

theorem u8_bc {n : Int} (h : (Lit.int .u8 n).wf = true) : ∃ u : UInt8, Value.int .u8 n = bc u := by
  have h2 : 0 ≤ n ∧ n < 256 := by
    have h' : IntKind.u8.min ≤ n ∧ n ≤ IntKind.u8.max := by simpa [Lit.wf] using h
    have e1 : IntKind.u8.min = 0 := by decide
    have e2 : IntKind.u8.max = 255 := by decide
    rw [e1, e2] at h'
    omega
  refine ⟨UInt8.ofNat n.toNat, ?_⟩
  unfold bc
  rw [UInt8.toNat_ofNat']
  congr 1
  omega
theorem four_of {α : Type} (l : List α) (h : l.length = 4) : ∃ a b c d, l = [a, b, c, d] := by
  match l, h with
  | [a, b, c, d], _ => exact ⟨a, b, c, d, rfl⟩
theorem list_of {α : Type} {P : Nat → α → Prop} : ∀ n, (∀ i, i < n → ∃ x, P i x) → ∃ l : List α, l.length = n ∧ ∀ i x, l[i]? = some x → P i x := by
  intro n
  induction n with
  | zero => intro _; exact ⟨[], rfl, by simp⟩
  | succ n ih =>
    intro h
    obtain ⟨l, hl, hp⟩ := ih fun i hi => h i (by omega)
    obtain ⟨x, hx⟩ := h n (by omega)
    refine ⟨l ++ [x], by simp [hl], fun i y hy => ?_⟩
    rw [List.getElem?_append] at hy
    split at hy
    · exact hp i y hy
    · rw [hl] at hy
      obtain rfl : i = n := by
        have := (List.getElem?_eq_some_iff.1 hy).1
        simp at this
        omega
      simp at hy
      subst hy
      exact hx

theorem cell_spot {w : World} {a : Addr} {v : Value} (h : w.cell? a = some v) : a.spot = none := by
  unfold World.cell? at h
  split at h
  · split at h
    · cases h
    · rename_i hs; simpa using hs
  · cases h
theorem add_plain (g o j : Nat) : (⟨g, o, none⟩ : Addr).add j = ⟨g, o + j, none⟩ := by unfold Addr.add; split <;> simp_all
set_option maxRecDepth 100000 in
/-- What the argument holds, as the walk wants it. -/
theorem open_ops {H : Type} {enc : TypeId × Value → H} {w : World} {spare : Nat → Bool} {held : Bool} {fuel : Nat} {A : Option Addr} {n c : Nat} {x : DataW H × List MemPlace}
    (h : DataW.trod enc Try.prog w 0 spare held fuel 22 [.slice A n c] = some x) : ∃ ops : List Op, OpsR w (.slice A n c) ops := by
  rcases Go.Deep.open_slice Try.underlying22 h with ⟨hcs, _⟩ | ⟨a, len, cap, m, n', D, Pl, hcs, _, hl, hm, hmm, _, hi⟩
  · injection hcs with hcs
    injection hcs with h1 h2 h3
    subst h1 h2 h3
    exact ⟨[], none, 0, rfl, Nat.le_refl _, by simp [maxLen], by simp⟩
  · injection hcs with hcs
    injection hcs with h1 h2 h3
    subst h1 h2 h3
    have hlm : n ≤ m := by rw [hmm]; split <;> omega
    have hspot : 0 < n → a.spot = none := by
      intro hn
      obtain ⟨cs', hc, ht⟩ := hi 0 (by omega)
      rw [cells37] at hc
      obtain ⟨_, hl4, hat⟩ := World.cells?_some hc
      have h0 := hat 0 (by omega)
      rw [List.getElem?_eq_getElem (by omega)] at h0
      have := cell_spot h0
      simpa [Addr.add] using this
    have key : ∀ i, i < n → ∃ y : Op, ∃ g o, some a = some ⟨g, o, none⟩ ∧ g < w.heap.size ∧
        w.cell? ⟨g, o + i * 4, none⟩ = some (bc y.kind) ∧ w.cell? ⟨g, o + i * 4 + 1, none⟩ = some (bc y.slot) ∧ w.cell? ⟨g, o + i * 4 + 2, none⟩ = some (bc y.value) ∧ w.cell? ⟨g, o + i * 4 + 3, none⟩ = some (bc y.period) := by
      intro i hin
      obtain ⟨cs', hc, ht⟩ := hi i (by omega)
      rw [cells37] at hc
      obtain ⟨ys, fu, _, _, hlen, hyl, hf⟩ := DataW.trod_struct Try.underlying37 ht
      rw [cells37] at hlen
      obtain ⟨_, _, hat⟩ := World.cells?_some hc
      have hyl4 : ys.length = 4 := hyl
      clear hyl
      obtain ⟨v0, v1, v2, v3, rfl⟩ := four_of cs' hlen
      obtain ⟨y0, y1, y2, y3, rfl⟩ := four_of ys hyl4
      have f0 : DataW.trod enc Try.prog w 0 spare held fu 5 (([v0, v1, v2, v3].drop 0).take (Try.prog.cellsOf 5)) = some y0 := hf 0 { name := "Kind", type := 5, offset := 0, embedded := false, tag := "", pkgPath := "", byteOffset := 0 } rfl
      have f1 : DataW.trod enc Try.prog w 0 spare held fu 5 (([v0, v1, v2, v3].drop 1).take (Try.prog.cellsOf 5)) = some y1 := hf 1 { name := "Slot", type := 5, offset := 1, embedded := false, tag := "", pkgPath := "", byteOffset := 1 } rfl
      have f2 : DataW.trod enc Try.prog w 0 spare held fu 5 (([v0, v1, v2, v3].drop 2).take (Try.prog.cellsOf 5)) = some y2 := hf 2 { name := "Value", type := 5, offset := 2, embedded := false, tag := "", pkgPath := "", byteOffset := 2 } rfl
      have f3 : DataW.trod enc Try.prog w 0 spare held fu 5 (([v0, v1, v2, v3].drop 3).take (Try.prog.cellsOf 5)) = some y3 := hf 3 { name := "Period", type := 5, offset := 3, embedded := false, tag := "", pkgPath := "", byteOffset := 3 } rfl
      rw [cells5] at f0 f1 f2 f3
      change DataW.trod enc Try.prog w 0 spare held fu 5 [v0] = some y0 at f0
      change DataW.trod enc Try.prog w 0 spare held fu 5 [v1] = some y1 at f1
      change DataW.trod enc Try.prog w 0 spare held fu 5 [v2] = some y2 at f2
      change DataW.trod enc Try.prog w 0 spare held fu 5 [v3] = some y3 at f3
      obtain ⟨m0, e0, _, g0⟩ := DataW.trod_int Try.underlying5 f0
      obtain ⟨m1, e1, _, g1⟩ := DataW.trod_int Try.underlying5 f1
      obtain ⟨m2, e2, _, g2⟩ := DataW.trod_int Try.underlying5 f2
      obtain ⟨m3, e3, _, g3⟩ := DataW.trod_int Try.underlying5 f3
      injection e0 with e0
      injection e1 with e1
      injection e2 with e2
      injection e3 with e3
      obtain ⟨u0, b0⟩ := u8_bc g0
      obtain ⟨u1, b1⟩ := u8_bc g1
      obtain ⟨u2, b2⟩ := u8_bc g2
      obtain ⟨u3, b3⟩ := u8_bc g3
      have c0 := hat 0 (by omega)
      have c1 := hat 1 (by omega)
      have c2 := hat 2 (by omega)
      have c3 := hat 3 (by omega)
      change _ = some v0 at c0
      change _ = some v1 at c1
      change _ = some v2 at c2
      change _ = some v3 at c3
      rw [e0, b0] at c0
      rw [e1, b1] at c1
      rw [e2, b2] at c2
      rw [e3, b3] at c3
      obtain ⟨g, o, sp⟩ := a
      obtain rfl : sp = none := hspot (by omega)
      simp only [add_plain, Nat.add_zero] at c0 c1 c2 c3
      exact ⟨⟨u0, u1, u2, u3⟩, g, o, rfl, World.block_lt_of_cell? _ _ c0, c0, c1, c2, c3⟩
    obtain ⟨ops, hlen, hops⟩ := list_of n key
    exact ⟨ops, some a, c, by rw [hlen], by rw [hlen]; exact hl, hm, hops⟩

set_option maxRecDepth 100000 in
theorem lifted (os : Os) (started : os.Started) (H : Type) (enc : TypeId × Value → H) :
    ReturnsInHanded {} Try.checked os 3 .any (Rows.topPoolPagesSpec.pre6 enc Try.prog Try.f3 Rows.topPoolPagesRow.domain false) (Rows.topPoolPagesSpec.post enc Try.prog Try.f3 false true false false) := by
  refine returnsInHanded_of_change (C := Try.checked) own started (by kernel_rfl) Try.func3
    (ChangeSpec.witness6 (enc := enc) (C := Try.checked) false ⟨#[], #[.slice none 0 0], []⟩ 8 (by kernel_rfl) (by kernel_rfl) (by kernel_rfl) (by kernel_rfl)) ?_
  intro W base args ds gs before hval0 hW hcnd _
  have hval : ∀ (j : Nat) t v, Try.f3.params[j]? = some t → args[j]? = some v → Value.okWide Try.prog W .any base t v := hval0
  have hW' := hW
  obtain ⟨p, q, hA0, hV, rfl, hfz, hnd⟩ := hW
  have hA : DataW.TrodAll enc Try.prog W 0 (fun _ => true) true Try.f3.params.toList args.toList ds p := hA0
  rw [Try.params3] at hA hval
  obtain ⟨v0, vs0, d0, ds0, p0, q0, hargs, rfl, rfl, h0, r0⟩ := trodAll_cons hA
  obtain ⟨rfl, rfl, rfl⟩ := trodAll_nil r0
  obtain rfl : args = #[v0] := by cases args; simp_all
  obtain ⟨rfl, rfl⟩ := trodVars_none hV
  obtain ⟨a0, len0, cap0, rfl⟩ := okWide_slice Try.underlying22 (hval 0 22 v0 rfl rfl)
  have k0 := h0
  have lt0 : ∀ x ∈ p0, x.block < W.heap.size := by obtain ⟨m, hm⟩ := k0; exact DataW.trod_lt m _ _ _ hm
  obtain ⟨ops, hops⟩ : ∃ ops, OpsR W (.slice a0 len0 cap0) ops := by
    obtain ⟨fuel, hf⟩ := h0
    exact open_ops hf
  clear hA0 hval0
  refine (top_any W _ ops hops).mono fun e W' ⟨he, bel⟩ => ?_
  subst he
  exact ⟨_, rfl, _, _, _, [], _, [], hW', trodAll_mk1 (shut_bool Try.underlying4 _), (trodAll_cons_mk (Below.trod laidOut (by kernel_rfl) (of_decide_eq_true (by kernel_rfl)) k0 bel lt0) trodAll_mk0), rfl, bel.frame _, fun h => by cases h⟩

theorem over : Rows.topPoolPagesRow.holds Try.pinned (OpenSpec.ofChange Rows.topPoolPagesSpec) :=
  OpenClaim.holds_of_wide 3 Try.f3 rfl rfl rfl rfl rfl rfl rfl ⟨rfl, rfl, rfl, rfl, rfl⟩ rfl rfl rfl rfl rfl (by kernel_rfl) Try.func3 (by kernel_rfl)
    (of_decide_eq_true (by kernel_rfl)) (by unfold Func.isWrapper; first | (rw [if_pos (by decide +kernel)]; kernel_rfl) | (rw [if_neg (by decide +kernel)]; exact ⟨rfl, rfl⟩))
    (fun os started H enc _ => lifted os started H enc)

theorem topPoolPages_holds : Rows.TopPoolPagesSaid := over
#print axioms topPoolPages_holds
end Go.Proofs.Ytfdmmbalfjcehaa
