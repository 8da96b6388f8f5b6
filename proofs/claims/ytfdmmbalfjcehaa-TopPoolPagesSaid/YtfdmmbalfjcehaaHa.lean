/- Contract of zswap.encode over a valid pool. -/
import Derived.Test.YtfdmmbalfjcehaaPm
import Derived.Test.YtfdmmbalfjcehaaCg
namespace Go.Proofs.Ytfdmmbalfjcehaa
open Go.RowKit
set_option linter.unusedVariables false
set_option linter.unusedSimpArgs false
attribute [local go_sem] lt_more lt_more2 lt_more3 lt_more4 lt_more5 lt_more6 lt_more7 lt_more8 idx0 idx1

set_option maxHeartbeats 4000000 in
set_option maxRecDepth 100000 in
theorem encode_any (w : World) (v pv : Value) (fs : List Fr) (l : List UInt8) (hv : FrsV w v fs) (hf : Valid fs) (hp : ByV w pv l) (hl : l.length = 32) :
    Calls Try.prog 30 #[.agg #[.int .i64 4, v], pv] w fun e w' => (∃ v', e = .returned (.tuple #[v', .int .i64 0]) ∧ ByV w' v' (packF l)) ∧ Below w.heap.size w w' := by
  obtain ⟨A, c, rfl, hc, hm⟩ := hv.form
  obtain ⟨Ap, cp, rfl, _, _⟩ := hp.form
  have HB := Lib.hid (Below.refl w.heap.size w)
  have FV := Lib.hid hv
  have PV := Lib.hid hp
  obtain ⟨n, hn'⟩ : ∃ n, n = fs.length := ⟨_, rfl⟩
  rw [← hn'] at hv hc FV ⊢
  rw [hl] at PV ⊢
  have HF := Lib.hid hf
  have HL := Lib.hid hl
  clear hn' hf hv hp hl
  go_enter Try.func30, Try.ntmps30
  go_wp2_with fail
  ((go_at_call 21); (with_reducible refine (check_one _ _ fs (FV.out.keep (by repeat (with_reducible first | exact Below.refl _ _ | apply bA | apply bD | apply bN))) HF.out).mono ?_); rintro e w1 ⟨rfl, hb1⟩; (have HB1 := Lib.hid (bT (w := w) ((by repeat (with_reducible first | exact HB.out | exact Below.refl _ _ | apply bA | apply bD | apply bN | refine bS ?_ (by first | assumption | (simp only []; omega) | omega)))) hb1)); clear HB; (have HB := HB1); clear HB1; (have hbb := HB.out); (have N_ := Lib.hid (PV.out.keep hbb)); clear PV; (have PV := N_); clear N_; skip; clear hb1 hbb; (obtain ⟨wl, rfl⟩ : ∃ wl : World, wl = w1 := ⟨_, rfl⟩); skip; skip)
  go_wp2_with fail
  ((go_at_call 7); (with_reducible refine (pack_any _ _ l (PV.out.keep (by repeat (with_reducible first | exact Below.refl _ _ | apply bA | apply bD | apply bN))) HL.out).mono ?_); rintro e w1 ⟨⟨v', rfl, ho⟩, hb1⟩; (have HB1 := Lib.hid (bT (w := w) ((by repeat (with_reducible first | exact HB.out | exact Below.refl _ _ | apply bA | apply bD | apply bN | refine bS ?_ (by first | assumption | (simp only []; omega) | omega)))) hb1)); clear HB; (have HB := HB1); clear HB1; (have hbb := bT (w := wl) (by repeat (with_reducible first | exact Below.refl _ _ | apply bA | apply bD | apply bN)) hb1); skip; (have HO := Lib.hid ho); clear ho; clear hb1 hbb; (obtain ⟨wl, rfl⟩ : ∃ wl : World, wl = w1 := ⟨_, rfl⟩); skip; skip)
  go_wp2
  go_ret2
  exact ⟨⟨_, rfl, HO.out⟩, HB.out⟩
end Go.Proofs.Ytfdmmbalfjcehaa
