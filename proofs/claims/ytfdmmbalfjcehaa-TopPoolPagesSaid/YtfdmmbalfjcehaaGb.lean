/- Contract of dPooled: what it plays is a run. -/
import Derived.Test.YtfdmmbalfjcehaaGa
namespace Go.Proofs.Ytfdmmbalfjcehaa
open Go.RowKit
set_option linter.unusedVariables false
set_option linter.unusedSimpArgs false
attribute [local go_sem] lt_more lt_more2 lt_more3 lt_more4 lt_more5 lt_more6 lt_more7 lt_more8

set_option maxHeartbeats 8000000 in
set_option maxRecDepth 100000 in
theorem pooled_any (w : World) (v : Value) (ops : List Op) (hv : OpsR w v ops) (hn : ops.length ≤ 30) :
    Calls Try.prog 5 #[v] w fun e w' => (∃ (fv : Value) (vs : Array Value) (st : St), e = .returned (.tuple #[.agg #[.int .i64 4, fv], .agg vs, .bool true]) ∧ Runs ops st ∧ FrsV w' fv st.fs ∧ PgV w' vs st.pages) ∧ Below w.heap.size w w' := by
  have HB := Lib.hid (Below.refl w.heap.size w)
  have HV := Lib.hid hv
  obtain ⟨A, c, rfl, hc, hm, _⟩ := hv
  obtain ⟨n, hn'⟩ : ∃ n, n = ops.length := ⟨_, rfl⟩
  rw [← hn'] at hn hc HV ⊢
  have HN := Lib.hid hn'
  clear hn'
  go_enter Try.func5, Try.ntmps5
  go_wp2_with fail
  ((go_at_call 12); (with_reducible refine (New_four _).mono ?_); rintro e w1 ⟨rfl, hb1⟩; (have HB1 := Lib.hid (bT (w := w) ((by repeat (with_reducible first | exact HB.out | exact Below.refl _ _ | apply bA | apply bD | apply bN | refine bS ?_ (by first | assumption | (simp only []; omega) | omega)))) hb1)); clear HB; (have HB := HB1); clear HB1; (have hbb := HB.out); skip; (have TR := Lib.hid (Two.keep (B := w.heap.size) (u := .int .i64 0) (v := .slice none 0 0) (by simp only [Two, ITwo, heap_drew, heap_drewN, heap_alloc_eq, size_alloc', size_drew, size_drewN, ↓reduceIte]; repeat (first | rw [if_pos (by omega)] | rw [if_neg (by omega)])) hb1)); (have NR := Lib.hid (Nine.keep (B := w.heap.size + 1) (vs := nils) (by simp only [Nine, Two, heap_drew, heap_drewN, heap_alloc_eq, size_alloc', size_drew, size_drewN, ↓reduceIte]; (repeat (first | rw [if_pos (by omega)] | rw [if_neg (by omega)])); try exact rfl) hb1)); clear hb1 hbb; (obtain ⟨wl, rfl⟩ : ∃ wl : World, wl = w1 := ⟨_, rfl⟩); (try clear hr0 hr1 fr0 fr1 lr); (obtain ⟨hr0, hr1, fr0, fr1, lr⟩ := TR.out.all); skip)
  go_wp2_with fail
  obtain ⟨Bp, hBp⟩ : ∃ Bp, Bp = wl.heap.size := ⟨_, rfl⟩
  rw [← hBp]
  have hBw : w.heap.size + 1 < Bp := by rw [hBp]; exact NR.out.lt
  refine wp_gen (fun W => Hid (PL W w.heap.size Bp (Bp + 1) (.slice none 0 0) nils st0) ∧ Hid (Below w.heap.size w W))
    ⟨Lib.hid ⟨(TR.out.alloc _).alloc _, (NR.out.alloc _).alloc _, ?_, ?_, ⟨[], rfl, World.ownsRow_nil _ _ _ _, by simp⟩, PgV0 _⟩, Lib.hid (by repeat (with_reducible first | exact HB.out | exact Below.refl _ _ | apply bA | apply bD | apply bN | refine bS ?_ (by first | assumption | (simp only []; omega) | omega)))⟩ ?_
  · unfold Two; simp only [heap_alloc_eq, size_alloc2]; rw [if_neg (by omega), if_pos hBp]
  · unfold Nine; simp only [heap_alloc_eq, size_alloc2]; rw [if_pos (by omega)]; exact rfl
  clear HB TR NR hr0 hr1 fr0 fr1 lr hBp
  rintro W ⟨HP, HB⟩
  go_loopw [8, 9] (fun nx i wr => ∃ (k : Nat) (fv : Value) (vs : Array Value) (st : St), k ≤ n ∧ i = .int .i64 k ∧ nx = .int .i64 st.next ∧ Hid (PL wr w.heap.size Bp (Bp + 1) fv vs st) ∧ Hid (Below w.heap.size w wr) ∧ Hid (Runs (ops.take k) st)) (fun _ i _ => n - (intOf i).toNat)
  case atStart => exact ⟨0, _, _, st0, Nat.zero_le _, rfl, rfl, HP, HB, Lib.hid Runs.nil⟩
  case round =>
    obtain ⟨k, fv, vs, st, hk, rfl, rfl, hp, hb, hruns⟩ := hrel
    clear HP HB
    have HB := hb
    have HP := hp
    clear hb hp
    by_cases hlt : k < n
    · have dk : decide ((k : Int) < n) = true := decide_eq_true (by omega)
      obtain ⟨x, hx⟩ : ∃ x, ops[k]? = some x := ⟨ops[k]'(by have := HN.out; omega), List.getElem?_eq_getElem _⟩
      obtain ⟨g, off, c2, he, hg, k0, k1, k2, k3⟩ := (HV.out.keep HB.out).at_ hx
      injection he with he1 he2 he3
      subst he1
      clear he2 he3 c2
      obtain ⟨hJ, hnx⟩ := hruns.out.J (by rw [List.length_take]; omega)
      rw [List.length_take] at hnx
      obtain ⟨s, hs⟩ : ∃ s, s = slotOf x := ⟨_, rfl⟩
      have hs9 : s < 9 := by rw [hs]; exact slotOf_lt x
      have s0 : (x.slot.toNat : Int) % 9 = (s : Int) := by rw [hs]; unfold slotOf; omega
      have s1 : (0 : Int) ≤ s := by omega
      have s2 : (s : Int) < 9 := by omega
      have i1 : (0 : Int) ≤ k := by omega
      have i2 : (k : Int) < n := by omega
      have ub1 := bc_hi x.slot
      have ub2 := bc_hi x.kind
      have q1 : IntKind.i64.wrap (x.slot.toNat : Int) = x.slot.toNat := IntWalk.i64_in _ (by omega)
      change wr.cell? _ = some (.int .u8 (x.kind.toNat : Int)) at k0
      change wr.cell? _ = some (.int .u8 (x.slot.toNat : Int)) at k1
      have HX := Lib.hid hx
      have HSL := Lib.hid hs
      have HJ := Lib.hid hJ
      obtain ⟨Af, cf, rfl, _, _⟩ := HP.out.fr.form
      obtain ⟨y0, y1, y2, y3, y4⟩ := HP.out.p.all
      have y5 := HP.out.g.lt
      have y6 := HP.out.g.frozen s
      obtain ⟨Ap, cp, hvs, hby, hcell⟩ := HP.out.page hJ hs9
      have HVS := Lib.hid hvs
      have HBY := Lib.hid hby
      clear hx hs hJ hvs hby
      obtain ⟨wl, rfl⟩ : ∃ wl : World, wl = wr := ⟨_, rfl⟩
      change wl.cell? _ = some (.int .u8 (x.value.toNat : Int)) at k2
      change wl.cell? _ = some (.int .u8 (x.period.toNat : Int)) at k3
      rcases Nat.mod_two_eq_zero_or_one x.kind.toNat with hkd | hkd
      · have kd : (x.kind.toNat : Int) % 2 = 0 := by omega
        have HKD := Lib.hid hkd
        clear hkd
        by_cases hpg : pageAt st s = []
        · have HPG := Lib.hid hpg
          have hp0 : (pageAt st s).length = 0 := by rw [hpg]; rfl
          rw [hp0] at hcell
          clear hpg hp0
          go_wp2_with fail
          try rw [s0]
          ((go_at_call 14); (with_reducible refine (poolPage_int _ x.kind x.slot x.value x.period).mono ?_); rintro e w1 ⟨⟨v', l, rfl, ho, hl, hper⟩, hb1⟩; (have HB1 := Lib.hid (bT (w := w) ((by repeat (with_reducible first | exact HB.out | exact Below.refl _ _ | apply bA | apply bD | apply bN | refine bS ?_ (by first | assumption | (simp only []; omega) | omega)))) hb1)); clear HB; (have HB := HB1); clear HB1; (have hbb := bT (w := wl) (by repeat (with_reducible first | exact Below.refl _ _ | apply bA | apply bD | apply bN)) hb1); (have N_ := Lib.hid (HP.out.keep hbb)); clear HP; (have HP := N_); clear N_; (obtain ⟨Al, cl, rfl, _, _⟩ := ho.form); (rw [hl] at ho ⊢); (have HPV := Lib.hid ho); (have HLL := Lib.hid hl); (have HPER := Lib.hid hper); clear ho hl hper; (have hcell2 := cell_keep hb1 (by first | exact hcell | go_simp)); clear hcell; (have hcell := hcell2); clear hcell2; clear y0 y1 y2 y3 y4 y5 y6; clear k0 k1 k2 k3; clear hb1 hbb; (obtain ⟨wl, rfl⟩ : ∃ wl : World, wl = w1 := ⟨_, rfl⟩); skip; (obtain ⟨y0, y1, y2, y3, y4⟩ := HP.out.p.all); (have y5 := HP.out.g.lt); (have y6 := HP.out.g.frozen s))
          go_wp2_with fail
          obtain ⟨N, hN⟩ : ∃ N, N = needsF st.fs (packF l).length := ⟨_, rfl⟩
          ((go_at_call 15); (with_reducible refine (needs_any _ _ _ st.fs l (HP.out.fr.keep (by repeat (with_reducible first | exact Below.refl _ _ | apply bA | apply bD | apply bN))) HJ.out.valid (HPV.out.keep (by repeat (with_reducible first | exact Below.refl _ _ | apply bA | apply bD | apply bN))) HLL.out).mono ?_); rintro e w1 ⟨rfl, hb1⟩; (have HB1 := Lib.hid (bT (w := w) ((by repeat (with_reducible first | exact HB.out | exact Below.refl _ _ | apply bA | apply bD | apply bN | refine bS ?_ (by first | assumption | (simp only []; omega) | omega)))) hb1)); clear HB; (have HB := HB1); clear HB1; (have hbb := bT (w := wl) (by repeat (with_reducible first | exact Below.refl _ _ | apply bA | apply bD | apply bN)) hb1); (have N_ := Lib.hid (HP.out.keep hbb)); clear HP; (have HP := N_); clear N_; (have N_ := Lib.hid (HPV.out.keep hbb)); clear HPV; (have HPV := N_); clear N_; (rw [← hN]); (have hcell2 := cell_keep hb1 (by first | exact hcell | go_simp)); clear hcell; (have hcell := hcell2); clear hcell2; clear y0 y1 y2 y3 y4 y5 y6; clear hb1 hbb; (obtain ⟨wl, rfl⟩ : ∃ wl : World, wl = w1 := ⟨_, rfl⟩); skip; (obtain ⟨y0, y1, y2, y3, y4⟩ := HP.out.p.all); (have y5 := HP.out.g.lt); (have y6 := HP.out.g.frozen s))
          have HNN := Lib.hid hN
          clear hN
          by_cases hk24 : (packF l).length ≤ 24
          · have hiff := store_iff HJ.out hs9 (l := l) hk24
            rw [← HNN.out, decide_eq_true HPG.out, Bool.and_true] at hiff
            have HK24 := Lib.hid hk24
            cases hst : storeF st.fs s (packF l) st.next with
            | some fs' =>
              rw [hst] at hiff
              have hN0 : 0 ≤ N := of_decide_eq_true hiff.symm
              have HST := Lib.hid hst
              clear hiff hst hk24
              go_wp2_with fail
              try rw [s0]
              ((go_at_call 16); (with_reducible refine (zstore_ok _ _ _ st.fs fs' s st.next l (HP.out.fr.keep (by repeat (with_reducible first | exact Below.refl _ _ | apply bA | apply bD | apply bN))) HJ.out.valid (HPV.out.keep (by repeat (with_reducible first | exact Below.refl _ _ | apply bA | apply bD | apply bN))) HLL.out s1 (by omega) HJ.out.nums (by omega) (by omega) HK24.out HST.out).mono ?_); rintro e w1 ⟨⟨v2, rfl, ho2⟩, hb1⟩; (have HB1 := Lib.hid (bT (w := w) ((by repeat (with_reducible first | exact HB.out | exact Below.refl _ _ | apply bA | apply bD | apply bN | refine bS ?_ (by first | assumption | (simp only []; omega) | omega)))) hb1)); clear HB; (have HB := HB1); clear HB1; (have hbb := bT (w := wl) (by repeat (with_reducible first | exact Below.refl _ _ | apply bA | apply bD | apply bN)) hb1); (have N_ := Lib.hid (HP.out.keep hbb)); clear HP; (have HP := N_); clear N_; (have N_ := Lib.hid (HPV.out.keep hbb)); clear HPV; (have HPV := N_); clear N_; (obtain ⟨A1, c1, rfl, _, _⟩ := ho2.form); (have HO1 := Lib.hid ho2); clear ho2; (have hcell2 := cell_keep hb1 (by first | exact hcell | go_simp)); clear hcell; (have hcell := hcell2); clear hcell2; clear y0 y1 y2 y3 y4 y5 y6; clear hb1 hbb; (obtain ⟨wl, rfl⟩ : ∃ wl : World, wl = w1 := ⟨_, rfl⟩); skip; (obtain ⟨y0, y1, y2, y3, y4⟩ := HP.out.p.all); (have y5 := HP.out.g.lt); (have y6 := HP.out.g.frozen s))
              have hw1 : IntKind.i64.wrap ((st.next : Int) + 1) = (st.next : Int) + 1 := IntWalk.i64_in _ (by omega)
              go_wp2
              go_roundw
              case measure => simp [intOf]; omega
              case rel =>
                refine ⟨k + 1, _, _, ⟨fs', st.pages.set s l, st.next + 1⟩, by omega, by go_num, by go_num, Lib.hid ((HP.out.turn hBw HO1.out HPV.out).keep (by repeat (with_reducible first | exact Below.refl _ _ | apply bA | apply bD | apply bN))), Lib.hid (by repeat (with_reducible first | exact HB.out | exact Below.refl _ _ | apply bA | apply bD | apply bN | refine bS ?_ (by first | assumption | (simp only []; omega) | omega))), Lib.hid ?_⟩
                rw [take_snoc_get HX.out]
                exact Runs.snoc _ x st _ hruns.out (.inr ⟨HKD.out, l, ⟨HLL.out, HPER.out⟩, by rw [← HSL.out, putF_ok HPG.out HK24.out HST.out]⟩)
            | none =>
              rw [hst] at hiff
              have hN0 : N < 0 := by have := of_decide_eq_false hiff.symm; omega
              have dN : decide ((0 : Int) ≤ N) = false := decide_eq_false (by omega)
              have HST := Lib.hid hst
              clear hiff hst hk24
              go_wp2_with fail
              try rw [s0]
              ((go_at_call 16); (with_reducible refine (zstore_none _ _ _ st.fs s st.next l (HP.out.fr.keep (by repeat (with_reducible first | exact Below.refl _ _ | apply bA | apply bD | apply bN))) HJ.out.valid (HPV.out.keep (by repeat (with_reducible first | exact Below.refl _ _ | apply bA | apply bD | apply bN))) HLL.out s1 (by omega) HK24.out HST.out).mono ?_); rintro e w1 ⟨⟨r2, rfl, hr2⟩, hb1⟩; (have HB1 := Lib.hid (bT (w := w) ((by repeat (with_reducible first | exact HB.out | exact Below.refl _ _ | apply bA | apply bD | apply bN | refine bS ?_ (by first | assumption | (simp only []; omega) | omega)))) hb1)); clear HB; (have HB := HB1); clear HB1; (have hbb := bT (w := wl) (by repeat (with_reducible first | exact Below.refl _ _ | apply bA | apply bD | apply bN)) hb1); (have N_ := Lib.hid (HP.out.keep hbb)); clear HP; (have HP := N_); clear N_; (have N_ := Lib.hid (HPV.out.keep hbb)); clear HPV; (have HPV := N_); clear N_; (have hcell2 := cell_keep hb1 (by first | exact hcell | go_simp)); clear hcell; (have hcell := hcell2); clear hcell2; clear y0 y1 y2 y3 y4 y5 y6; clear hb1 hbb; (obtain ⟨wl, rfl⟩ : ∃ wl : World, wl = w1 := ⟨_, rfl⟩); skip; (obtain ⟨y0, y1, y2, y3, y4⟩ := HP.out.p.all); (have y5 := HP.out.g.lt); (have y6 := HP.out.g.frozen s))
              go_wp2
              all_goals
                go_roundw
                case measure => simp [intOf]; omega
                case rel =>
                  refine ⟨k + 1, _, _, st, by omega, by go_num, rfl, Lib.hid (HP.out.keep (by repeat (with_reducible first | exact Below.refl _ _ | apply bA | apply bD | apply bN))), Lib.hid (by repeat (with_reducible first | exact HB.out | exact Below.refl _ _ | apply bA | apply bD | apply bN | refine bS ?_ (by first | assumption | (simp only []; omega) | omega))), Lib.hid ?_⟩
                  rw [take_snoc_get HX.out]
                  exact Runs.snoc _ x st _ hruns.out (.inr ⟨HKD.out, l, ⟨HLL.out, HPER.out⟩, by rw [← HSL.out, putF_no HST.out]⟩)
          · have hN0 : N < 0 := by rw [HNN.out]; unfold needsF; rw [if_pos (by omega)]; decide
            have dN : decide ((0 : Int) ≤ N) = false := decide_eq_false (by omega)
            have HK24 := Lib.hid (show 24 < (packF l).length by omega)
            have HK25 := Lib.hid hk24
            clear hk24
            go_wp2_with fail
            try rw [s0]
            ((go_at_call 16); (with_reducible refine (zstore_long _ _ _ st.fs s st.next l (HP.out.fr.keep (by repeat (with_reducible first | exact Below.refl _ _ | apply bA | apply bD | apply bN))) HJ.out.valid (HPV.out.keep (by repeat (with_reducible first | exact Below.refl _ _ | apply bA | apply bD | apply bN))) HLL.out s1 (by omega) HK24.out).mono ?_); rintro e w1 ⟨⟨r2, rfl, hr2⟩, hb1⟩; (have HB1 := Lib.hid (bT (w := w) ((by repeat (with_reducible first | exact HB.out | exact Below.refl _ _ | apply bA | apply bD | apply bN | refine bS ?_ (by first | assumption | (simp only []; omega) | omega)))) hb1)); clear HB; (have HB := HB1); clear HB1; (have hbb := bT (w := wl) (by repeat (with_reducible first | exact Below.refl _ _ | apply bA | apply bD | apply bN)) hb1); (have N_ := Lib.hid (HP.out.keep hbb)); clear HP; (have HP := N_); clear N_; (have N_ := Lib.hid (HPV.out.keep hbb)); clear HPV; (have HPV := N_); clear N_; (have hcell2 := cell_keep hb1 (by first | exact hcell | go_simp)); clear hcell; (have hcell := hcell2); clear hcell2; clear y0 y1 y2 y3 y4 y5 y6; clear hb1 hbb; (obtain ⟨wl, rfl⟩ : ∃ wl : World, wl = w1 := ⟨_, rfl⟩); skip; (obtain ⟨y0, y1, y2, y3, y4⟩ := HP.out.p.all); (have y5 := HP.out.g.lt); (have y6 := HP.out.g.frozen s))
            go_wp2
            all_goals
              go_roundw
              case measure => simp [intOf]; omega
              case rel =>
                refine ⟨k + 1, _, _, st, by omega, by go_num, rfl, Lib.hid (HP.out.keep (by repeat (with_reducible first | exact Below.refl _ _ | apply bA | apply bD | apply bN))), Lib.hid (by repeat (with_reducible first | exact HB.out | exact Below.refl _ _ | apply bA | apply bD | apply bN | refine bS ?_ (by first | assumption | (simp only []; omega) | omega))), Lib.hid ?_⟩
                rw [take_snoc_get HX.out]
                exact Runs.snoc _ x st _ hruns.out (.inr ⟨HKD.out, l, ⟨HLL.out, HPER.out⟩, by rw [← HSL.out, putF_long HK25.out]⟩)
        · have hp32 : (pageAt st s).length = 32 := by
            rcases HJ.out.page _ (List.mem_of_getElem? (HJ.out.pageAt_get hs9)) with h | h
            · exact (hpg h).elim
            · exact h
          rw [hp32] at hcell
          have HPG := Lib.hid hpg
          clear hpg hp32
          go_wp2_with fail
          try rw [s0]
          ((go_at_call 14); (with_reducible refine (poolPage_int _ x.kind x.slot x.value x.period).mono ?_); rintro e w1 ⟨⟨v', l, rfl, ho, hl, hper⟩, hb1⟩; (have HB1 := Lib.hid (bT (w := w) ((by repeat (with_reducible first | exact HB.out | exact Below.refl _ _ | apply bA | apply bD | apply bN | refine bS ?_ (by first | assumption | (simp only []; omega) | omega)))) hb1)); clear HB; (have HB := HB1); clear HB1; (have hbb := bT (w := wl) (by repeat (with_reducible first | exact Below.refl _ _ | apply bA | apply bD | apply bN)) hb1); (have N_ := Lib.hid (HP.out.keep hbb)); clear HP; (have HP := N_); clear N_; (obtain ⟨Al, cl, rfl, _, _⟩ := ho.form); (rw [hl] at ho ⊢); (have HPV := Lib.hid ho); (have HLL := Lib.hid hl); (have HPER := Lib.hid hper); clear ho hl hper; (have hcell2 := cell_keep hb1 (by first | exact hcell | go_simp)); clear hcell; (have hcell := hcell2); clear hcell2; clear y0 y1 y2 y3 y4 y5 y6; clear k0 k1 k2 k3; clear hb1 hbb; (obtain ⟨wl, rfl⟩ : ∃ wl : World, wl = w1 := ⟨_, rfl⟩); skip; (obtain ⟨y0, y1, y2, y3, y4⟩ := HP.out.p.all); (have y5 := HP.out.g.lt); (have y6 := HP.out.g.frozen s))
          go_wp2_with fail
          obtain ⟨N, hN⟩ : ∃ N, N = needsF st.fs (packF l).length := ⟨_, rfl⟩
          ((go_at_call 15); (with_reducible refine (needs_any _ _ _ st.fs l (HP.out.fr.keep (by repeat (with_reducible first | exact Below.refl _ _ | apply bA | apply bD | apply bN))) HJ.out.valid (HPV.out.keep (by repeat (with_reducible first | exact Below.refl _ _ | apply bA | apply bD | apply bN))) HLL.out).mono ?_); rintro e w1 ⟨rfl, hb1⟩; (have HB1 := Lib.hid (bT (w := w) ((by repeat (with_reducible first | exact HB.out | exact Below.refl _ _ | apply bA | apply bD | apply bN | refine bS ?_ (by first | assumption | (simp only []; omega) | omega)))) hb1)); clear HB; (have HB := HB1); clear HB1; (have hbb := bT (w := wl) (by repeat (with_reducible first | exact Below.refl _ _ | apply bA | apply bD | apply bN)) hb1); (have N_ := Lib.hid (HP.out.keep hbb)); clear HP; (have HP := N_); clear N_; (have N_ := Lib.hid (HPV.out.keep hbb)); clear HPV; (have HPV := N_); clear N_; (rw [← hN]); (have hcell2 := cell_keep hb1 (by first | exact hcell | go_simp)); clear hcell; (have hcell := hcell2); clear hcell2; clear y0 y1 y2 y3 y4 y5 y6; clear hb1 hbb; (obtain ⟨wl, rfl⟩ : ∃ wl : World, wl = w1 := ⟨_, rfl⟩); skip; (obtain ⟨y0, y1, y2, y3, y4⟩ := HP.out.p.all); (have y5 := HP.out.g.lt); (have y6 := HP.out.g.frozen s))
          have HNN := Lib.hid hN
          clear hN
          by_cases hk24 : (packF l).length ≤ 24
          · have hiff := store_iff HJ.out hs9 (l := l) hk24
            rw [decide_eq_false HPG.out, Bool.and_false] at hiff
            have HK24 := Lib.hid hk24
            have HST := Lib.hid (Option.isSome_eq_false_iff.1 hiff |> Option.isNone_iff_eq_none.1)
            clear hiff hk24
            go_wp2_with fail
            try rw [s0]
            ((go_at_call 16); (with_reducible refine (zstore_none _ _ _ st.fs s st.next l (HP.out.fr.keep (by repeat (with_reducible first | exact Below.refl _ _ | apply bA | apply bD | apply bN))) HJ.out.valid (HPV.out.keep (by repeat (with_reducible first | exact Below.refl _ _ | apply bA | apply bD | apply bN))) HLL.out s1 (by omega) HK24.out HST.out).mono ?_); rintro e w1 ⟨⟨r2, rfl, hr2⟩, hb1⟩; (have HB1 := Lib.hid (bT (w := w) ((by repeat (with_reducible first | exact HB.out | exact Below.refl _ _ | apply bA | apply bD | apply bN | refine bS ?_ (by first | assumption | (simp only []; omega) | omega)))) hb1)); clear HB; (have HB := HB1); clear HB1; (have hbb := bT (w := wl) (by repeat (with_reducible first | exact Below.refl _ _ | apply bA | apply bD | apply bN)) hb1); (have N_ := Lib.hid (HP.out.keep hbb)); clear HP; (have HP := N_); clear N_; (have N_ := Lib.hid (HPV.out.keep hbb)); clear HPV; (have HPV := N_); clear N_; (have hcell2 := cell_keep hb1 (by first | exact hcell | go_simp)); clear hcell; (have hcell := hcell2); clear hcell2; clear y0 y1 y2 y3 y4 y5 y6; clear hb1 hbb; (obtain ⟨wl, rfl⟩ : ∃ wl : World, wl = w1 := ⟨_, rfl⟩); skip; (obtain ⟨y0, y1, y2, y3, y4⟩ := HP.out.p.all); (have y5 := HP.out.g.lt); (have y6 := HP.out.g.frozen s))
            go_wp2
            all_goals
              go_roundw
              case measure => simp [intOf]; omega
              case rel =>
                refine ⟨k + 1, _, _, st, by omega, by go_num, rfl, Lib.hid (HP.out.keep (by repeat (with_reducible first | exact Below.refl _ _ | apply bA | apply bD | apply bN))), Lib.hid (by repeat (with_reducible first | exact HB.out | exact Below.refl _ _ | apply bA | apply bD | apply bN | refine bS ?_ (by first | assumption | (simp only []; omega) | omega))), Lib.hid ?_⟩
                rw [take_snoc_get HX.out]
                exact Runs.snoc _ x st _ hruns.out (.inr ⟨HKD.out, l, ⟨HLL.out, HPER.out⟩, by rw [← HSL.out, putF_no HST.out]⟩)
          · have hN0 : N < 0 := by rw [HNN.out]; unfold needsF; rw [if_pos (by omega)]; decide
            have dN : decide ((0 : Int) ≤ N) = false := decide_eq_false (by omega)
            have HK24 := Lib.hid (show 24 < (packF l).length by omega)
            have HK25 := Lib.hid hk24
            clear hk24
            go_wp2_with fail
            try rw [s0]
            ((go_at_call 16); (with_reducible refine (zstore_long _ _ _ st.fs s st.next l (HP.out.fr.keep (by repeat (with_reducible first | exact Below.refl _ _ | apply bA | apply bD | apply bN))) HJ.out.valid (HPV.out.keep (by repeat (with_reducible first | exact Below.refl _ _ | apply bA | apply bD | apply bN))) HLL.out s1 (by omega) HK24.out).mono ?_); rintro e w1 ⟨⟨r2, rfl, hr2⟩, hb1⟩; (have HB1 := Lib.hid (bT (w := w) ((by repeat (with_reducible first | exact HB.out | exact Below.refl _ _ | apply bA | apply bD | apply bN | refine bS ?_ (by first | assumption | (simp only []; omega) | omega)))) hb1)); clear HB; (have HB := HB1); clear HB1; (have hbb := bT (w := wl) (by repeat (with_reducible first | exact Below.refl _ _ | apply bA | apply bD | apply bN)) hb1); (have N_ := Lib.hid (HP.out.keep hbb)); clear HP; (have HP := N_); clear N_; (have N_ := Lib.hid (HPV.out.keep hbb)); clear HPV; (have HPV := N_); clear N_; (have hcell2 := cell_keep hb1 (by first | exact hcell | go_simp)); clear hcell; (have hcell := hcell2); clear hcell2; clear y0 y1 y2 y3 y4 y5 y6; clear hb1 hbb; (obtain ⟨wl, rfl⟩ : ∃ wl : World, wl = w1 := ⟨_, rfl⟩); skip; (obtain ⟨y0, y1, y2, y3, y4⟩ := HP.out.p.all); (have y5 := HP.out.g.lt); (have y6 := HP.out.g.frozen s))
            go_wp2
            all_goals
              go_roundw
              case measure => simp [intOf]; omega
              case rel =>
                refine ⟨k + 1, _, _, st, by omega, by go_num, rfl, Lib.hid (HP.out.keep (by repeat (with_reducible first | exact Below.refl _ _ | apply bA | apply bD | apply bN))), Lib.hid (by repeat (with_reducible first | exact HB.out | exact Below.refl _ _ | apply bA | apply bD | apply bN | refine bS ?_ (by first | assumption | (simp only []; omega) | omega))), Lib.hid ?_⟩
                rw [take_snoc_get HX.out]
                exact Runs.snoc _ x st _ hruns.out (.inr ⟨HKD.out, l, ⟨HLL.out, HPER.out⟩, by rw [← HSL.out, putF_long HK25.out]⟩)
      · have kd : (x.kind.toNat : Int) % 2 = 1 := by omega
        have HKD := Lib.hid hkd
        clear hkd
        by_cases hpg : pageAt st s = []
        · have HPG := Lib.hid hpg
          have HNO := Lib.hid (HJ.out.no (s := s) (by rw [HJ.out.pageAt_get hs9, hpg]))
          have hp0 : (pageAt st s).length = 0 := by rw [hpg]; rfl
          rw [hp0] at hcell
          clear hpg hp0
          go_wp2_with fail
          try rw [s0]
          ((go_at_call 13); (with_reducible refine (zload_none _ _ st.fs s (HP.out.fr.keep (by repeat (with_reducible first | exact Below.refl _ _ | apply bA | apply bD | apply bN))) HJ.out.valid HNO.out).mono ?_); rintro e w1 ⟨rfl, hb1⟩; (have HB1 := Lib.hid (bT (w := w) ((by repeat (with_reducible first | exact HB.out | exact Below.refl _ _ | apply bA | apply bD | apply bN | refine bS ?_ (by first | assumption | (simp only []; omega) | omega)))) hb1)); clear HB; (have HB := HB1); clear HB1; (have hbb := bT (w := wl) (by repeat (with_reducible first | exact Below.refl _ _ | apply bA | apply bD | apply bN)) hb1); (have N_ := Lib.hid (HP.out.keep hbb)); clear HP; (have HP := N_); clear N_; (have hcell2 := cell_keep hb1 (by first | exact hcell | go_simp)); clear hcell; (have hcell := hcell2); clear hcell2; clear y0 y1 y2 y3 y4 y5 y6 k0 k1 k2 k3; clear hb1 hbb; (obtain ⟨wl, rfl⟩ : ∃ wl : World, wl = w1 := ⟨_, rfl⟩); skip; (obtain ⟨y0, y1, y2, y3, y4⟩ := HP.out.p.all); (have y5 := HP.out.g.lt); (have y6 := HP.out.g.frozen s))
          go_wp2_with fail
          go_quiet (fail)
          go_wp2
          go_roundw
          case measure => simp [intOf]; omega
          case rel =>
            refine ⟨k + 1, _, vs, st, by omega, by go_num, rfl, Lib.hid (HP.out.keep (by repeat (with_reducible first | exact Below.refl _ _ | apply bA | apply bD | apply bN))), Lib.hid (by repeat (with_reducible first | exact HB.out | exact Below.refl _ _ | apply bA | apply bD | apply bN | refine bS ?_ (by first | assumption | (simp only []; omega) | omega))), Lib.hid ?_⟩
            rw [take_snoc_get HX.out]
            exact Runs.snoc _ x st _ hruns.out (.inl ⟨HKD.out, by rw [← HSL.out, outF_nil HPG.out]⟩)
        · obtain ⟨i, f, j, hf, hj, hfind, hb, hd, hl⟩ := HJ.out.yes (HJ.out.pageAt_get hs9) hpg
          have hp32 : (pageAt st s).length = 32 := by
            rcases HJ.out.page _ (List.mem_of_getElem? (HJ.out.pageAt_get hs9)) with h | h
            · exact (hpg h).elim
            · exact h
          obtain ⟨p, hp⟩ : ∃ p, p = pageAt st s := ⟨_, rfl⟩
          have HENC := Lib.hid (show Enc (itAt f j).data p by rw [hd, ← hp]; rw [← hp] at hp32 hl; exact packF_Enc hp32 hl)
          rw [hp32] at hcell HBY
          rw [← hp] at HBY hp32
          have HP32 := Lib.hid hp32
          have HPG := Lib.hid hpg
          have HFI := Lib.hid hf
          have HJJ := Lib.hid hj
          have HFD := Lib.hid hfind
          clear hpg hf hj hfind hb hd hl hp32 hp
          go_wp2_with fail
          try rw [s0]
          ((go_at_call 13); (with_reducible refine (zload_some _ _ st.fs s (HP.out.fr.keep (by repeat (with_reducible first | exact Below.refl _ _ | apply bA | apply bD | apply bN))) HJ.out.valid i f j HFI.out HJJ.out HFD.out p HENC.out).mono ?_); rintro e w1 ⟨⟨v', pv, r, rfl, ho1, ho2⟩, hb1⟩; (have HB1 := Lib.hid (bT (w := w) ((by repeat (with_reducible first | exact HB.out | exact Below.refl _ _ | apply bA | apply bD | apply bN | refine bS ?_ (by first | assumption | (simp only []; omega) | omega)))) hb1)); clear HB; (have HB := HB1); clear HB1; (have hbb := bT (w := wl) (by repeat (with_reducible first | exact Below.refl _ _ | apply bA | apply bD | apply bN)) hb1); (have N_ := Lib.hid (HP.out.keep hbb)); clear HP; (have HP := N_); clear N_; (have N_ := Lib.hid (HBY.out.keep hbb)); clear HBY; (have HBY := N_); clear N_; (obtain ⟨A2, c2, rfl⟩ := byR32 ho2 HP32.out); (obtain ⟨A1, c1, rfl, _, _⟩ := ho1.form); (have HO1 := Lib.hid ho1); (have HO2 := Lib.hid ho2); clear ho1 ho2; (have hcell2 := cell_keep hb1 (by first | exact hcell | go_simp)); clear hcell; (have hcell := hcell2); clear hcell2; clear y0 y1 y2 y3 y4 y5 y6 k0 k1 k2 k3; clear hb1 hbb; (obtain ⟨wl, rfl⟩ : ∃ wl : World, wl = w1 := ⟨_, rfl⟩); skip; (obtain ⟨y0, y1, y2, y3, y4⟩ := HP.out.p.all); (have y5 := HP.out.g.lt); (have y6 := HP.out.g.frozen s))
          have cv1 : ∀ o q, (convert 27 9 (.slice A2 32 c2)).run Try.prog ((wl.alloc o).drewN q) = .ok (.string (strB p)) ((wl.alloc o).drewN q) := fun o q => conv_ByR (HO2.out.keep (bN (bA (Below.refl _ _)))) HP32.out
          have cv2 : ∀ o q, (convert 27 9 (.slice Ap 32 cp)).run Try.prog ((wl.alloc o).drewN q) = .ok (.string (strB p)) ((wl.alloc o).drewN q) := fun o q => conv_ByR (HBY.out.toR.keep (bN (bA (Below.refl _ _)))) HP32.out
          go_wp2_with fail
          go_quiet (fail)
          go_wp2
          go_roundw
          case measure => simp [intOf]; omega
          case rel =>
            refine ⟨k + 1, _, _, ⟨dropF st.fs i f j, st.pages.set s [], st.next⟩, by omega, by go_num, rfl, Lib.hid ((HP.out.keep (by repeat (with_reducible first | exact Below.refl _ _ | apply bA | apply bD | apply bN))).turn hBw (HO1.out.keep (by repeat (with_reducible first | exact Below.refl _ _ | apply bA | apply bD | apply bN))) (World.ownsRow_nil _ _ _ _)), Lib.hid (by repeat (with_reducible first | exact HB.out | exact Below.refl _ _ | apply bA | apply bD | apply bN | refine bS ?_ (by first | assumption | (simp only []; omega) | omega))), Lib.hid ?_⟩
            rw [take_snoc_get HX.out]
            exact Runs.snoc _ x st _ hruns.out (.inl ⟨HKD.out, by rw [← HSL.out, outF_page HPG.out HFI.out HFD.out]⟩)
    · have dk : decide ((k : Int) < n) = false := decide_eq_false (by omega)
      have ne1 : w.heap.size ≠ w.heap.size + 1 := by omega
      have ne2 : w.heap.size + 1 ≠ w.heap.size := by omega
      have hR := Lib.hid (show Runs ops st by have h := hruns.out; rwa [List.take_of_length_le (by have := HN.out; omega)] at h)
      have hJ := hR.out.J (by have := HN.out; omega)
      obtain ⟨Af, cf, rfl, _, _⟩ := HP.out.fr.form
      obtain ⟨A0, n0, c0, A1, n1, c1, A2, n2, c2, A3, n3, c3, A4, n4, c4, A5, n5, c5, A6, n6, c6, A7, n7, c7, A8, n8, c8, rfl⟩ := HP.out.pg.forms hJ.1.len
      clear hJ
      obtain ⟨x0, x1, x2, x3, x4⟩ := HP.out.r1.all
      obtain ⟨y0, y1, y2, y3, y4⟩ := HP.out.p.all
      have g0 := HP.out.g.cell 0
      have g1 := HP.out.g.cell 1
      have g2 := HP.out.g.cell 2
      have g3 := HP.out.g.cell 3
      have g4 := HP.out.g.cell 4
      have g5 := HP.out.g.cell 5
      have g6 := HP.out.g.cell 6
      have g7 := HP.out.g.cell 7
      have g8 := HP.out.g.cell 8
      have z0 := HP.out.r2.cell 0
      have z1 := HP.out.r2.cell 1
      have z2 := HP.out.r2.cell 2
      have z3 := HP.out.r2.cell 3
      have z4 := HP.out.r2.cell 4
      have z5 := HP.out.r2.cell 5
      have z6 := HP.out.r2.cell 6
      have z7 := HP.out.r2.cell 7
      have z8 := HP.out.r2.cell 8
      have gf := HP.out.r2.frozen
      simp at g0 g1 g2 g3 g4 g5 g6 g7 g8
      simp [nils] at z0 z1 z2 z3 z4 z5 z6 z7 z8
      go_wp2
      go_region
      have hT := (((HP.out.r1.set2 (u' := .int .i64 4) (v' := .slice Af st.fs.length cf)).nine ne1 (a0 := .slice A0 n0 c0) (a1 := .slice A1 n1 c1) (a2 := .slice A2 n2 c2) (a3 := .slice A3 n3 c3) (a4 := .slice A4 n4 c4) (a5 := .slice A5 n5 c5) (a6 := .slice A6 n6 c6) (a7 := .slice A7 n7 c7) (a8 := .slice A8 n8 c8))).drew
      have hN := (((HP.out.r2.two ne2 (a := .int .i64 4) (b := .slice Af st.fs.length cf)).fill rfl (a0 := .slice A0 n0 c0) (a1 := .slice A1 n1 c1) (a2 := .slice A2 n2 c2) (a3 := .slice A3 n3 c3) (a4 := .slice A4 n4 c4) (a5 := .slice A5 n5 c5) (a6 := .slice A6 n6 c6) (a7 := .slice A7 n7 c7) (a8 := .slice A8 n8 c8))).drew
      have hF := ((HP.out.fr.two HP.out.r1 (x' := .int .i64 4) (y' := .slice Af st.fs.length cf)).nine (HP.out.r2.two ne2) (a0 := .slice A0 n0 c0) (a1 := .slice A1 n1 c1) (a2 := .slice A2 n2 c2) (a3 := .slice A3 n3 c3) (a4 := .slice A4 n4 c4) (a5 := .slice A5 n5 c5) (a6 := .slice A6 n6 c6) (a7 := .slice A7 n7 c7) (a8 := .slice A8 n8 c8)).drew
      have hG := ((HP.out.pg.two HP.out.r1 (x' := .int .i64 4) (y' := .slice Af st.fs.length cf)).nine (HP.out.r2.two ne2) (a0 := .slice A0 n0 c0) (a1 := .slice A1 n1 c1) (a2 := .slice A2 n2 c2) (a3 := .slice A3 n3 c3) (a4 := .slice A4 n4 c4) (a5 := .slice A5 n5 c5) (a6 := .slice A6 n6 c6) (a7 := .slice A7 n7 c7) (a8 := .slice A8 n8 c8)).drew
      go_wp2
      refine bodyPost_ret (v := .tuple #[.agg #[.int .i64 4, .slice Af st.fs.length cf], .agg #[.slice A0 n0 c0, .slice A1 n1 c1, .slice A2 n2 c2, .slice A3 n3 c3, .slice A4 n4 c4, .slice A5 n5 c5, .slice A6 n6 c6, .slice A7 n7 c7, .slice A8 n8 c8], .bool true]) (res5 (B := w.heap.size) hT hN rfl rfl rfl) rfl ⟨⟨_, _, st, rfl, hR.out, hF, hG⟩, (by repeat (with_reducible first | exact HB.out | exact Below.refl _ _ | apply bA | apply bD | apply bN | refine bS ?_ (by first | assumption | (simp only []; omega) | omega)))⟩
end Go.Proofs.Ytfdmmbalfjcehaa
