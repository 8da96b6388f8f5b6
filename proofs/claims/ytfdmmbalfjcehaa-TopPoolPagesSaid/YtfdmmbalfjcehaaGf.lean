/- Contract of the law: TopPoolPages answers true. -/
import Derived.Test.YtfdmmbalfjcehaaGd
import Derived.Deep.RegionHeld3
import Derived.Deep.RegionWith
namespace Go.Proofs.Ytfdmmbalfjcehaa
open Go.RowKit
set_option linter.unusedVariables false
set_option linter.unusedSimpArgs false
attribute [local go_sem] lt_more lt_more2 lt_more3 lt_more4 lt_more5 lt_more6 lt_more7 lt_more8

/-- What the loop of the law keeps. -/
structure TL (w : World) (Bp : Nat) (fv : Value) (vs : Array Value) (st : St) : Prop where
  p : Two w Bp (.int .i64 4) fv
  g : Nine w (Bp + 1) vs
  fr : FrsV w fv st.fs
  pg : PgV w vs st.pages
theorem TL.keep {w w' : World} {Bp : Nat} {fv : Value} {vs : Array Value} {st : St} (h : TL w Bp fv vs st) (hb : Below w.heap.size w w') : TL w' Bp fv vs st :=
  ⟨h.p.keep hb, h.g.keep hb, h.fr.below hb, h.pg.keep hb⟩
theorem TL.page {w : World} {Bp : Nat} {fv : Value} {vs : Array Value} {st : St} (h : TL w Bp fv vs st) (hj : J st) {s : Nat} (hs : s < 9) : ∃ A c, ByV w (.slice A (pageAt st s).length c) (pageAt st s) ∧ w.cell? ⟨Bp + 1, s, none⟩ = some (.slice A (pageAt st s).length c) := by
  have hv : vs[s]? = some (vs[s]'(by rw [h.pg.1]; exact hs)) := Array.getElem?_eq_getElem _
  have hb := h.pg.2 s _ _ hv (hj.pageAt_get hs)
  obtain ⟨A, c, e, _, _⟩ := hb.form
  rw [e] at hv hb
  exact ⟨A, c, hb, (h.g.cell s).trans hv⟩
def encTo (st : St) (k : Nat) : Nat := ((st.pages.take k).map encLen).sum
theorem encTo_succ {st : St} (hj : J st) {k : Nat} (hk : k < 9) : encTo st (k + 1) = encTo st k + encLen (pageAt st k) := by
  have h := hj.pageAt_get hk
  obtain ⟨hk2, e⟩ := List.getElem?_eq_some_iff.1 h
  unfold encTo
  rw [List.take_succ_eq_append_getElem hk2, List.map_append, List.sum_append, e]
  simp
theorem encTo_nine {st : St} (hj : J st) : encTo st 9 = total st.fs := by
  unfold encTo; rw [List.take_of_length_le (by rw [hj.len]; exact Nat.le_refl _), hj.sum]
/-- What is used and what is left make up the frames. -/
theorem total_waste {fs : List Fr} : (total fs : Int) + waste fs = 32 * fs.length ∨ ¬ ∀ f ∈ fs, f.ok := by
  induction fs with
  | nil => left; simp [total, waste, items]
  | cons f r ih =>
    by_cases hf : f.ok
    · rcases ih with ih | ih
      · left
        have e1 : total (f :: r) = (f.a.data.length + f.b.data.length) + total r := by
          unfold total
          rw [items_cons, List.map_append, List.sum_append, items_one]
          congr 1
          obtain ⟨_, h2, h3, _⟩ := hf
          by_cases ha : f.a.absent <;> by_cases hb : f.b.absent
          · simp [ha, hb, ha.2, hb.2]
          · simp [ha, hb, ha.2]
          · simp [ha, hb, hb.2]
          · simp [ha, hb]
        have e2 : waste (f :: r) = f.free + waste r := by simp [waste]
        rw [e1, e2]
        unfold Fr.free
        rw [List.length_cons]
        omega
      · right; exact fun h => ih fun g hg => h g (List.mem_cons_of_mem _ hg)
    · right; exact fun h => hf (h f (List.mem_cons_self ..))
theorem J.used {st : St} (h : J st) : (total st.fs : Int) + waste st.fs = 32 * st.fs.length := by
  rcases total_waste (fs := st.fs) with e | e
  · exact e
  · exact (e h.valid.2.1).elim

theorem encTo_le {st : St} (h : J st) (k : Nat) : encTo st k ≤ 128 := by
  have h1 := h.used
  have h2 := (waste_bd h.valid st.fs.length (Nat.le_refl _)).1
  rw [List.take_of_length_le (Nat.le_refl _)] at h2
  have h3 := h.valid.1
  have h4 : encTo st k ≤ total st.fs := by
    rw [h.sum]
    unfold encTo
    have e : st.pages.map encLen = (st.pages.take k).map encLen ++ (st.pages.drop k).map encLen := by rw [← List.map_append, List.take_append_drop]
    rw [e, List.sum_append]
    omega
  omega

set_option maxHeartbeats 8000000 in
set_option maxRecDepth 100000 in
theorem top_any (w : World) (v : Value) (ops : List Op) (hv : OpsR w v ops) :
    Calls Try.prog 3 #[v] w fun e w' => e = .returned (.bool true) ∧ Below w.heap.size w w' := by
  have HB := Lib.hid (Below.refl w.heap.size w)
  have HV := Lib.hid hv
  obtain ⟨A, c, rfl, hc, hm, _⟩ := hv
  obtain ⟨n, hn'⟩ : ∃ n, n = ops.length := ⟨_, rfl⟩
  rw [← hn'] at hc HV ⊢
  have HN := Lib.hid hn'
  clear hn'
  unfold maxLen at hm
  by_cases hn : 30 < n
  · have d1 : decide ((30 : Int) < n) = true := decide_eq_true (by omega)
    go_enter Try.func3, Try.ntmps3
    go_wp2_with fail
    ((go_at_call 4); (with_reducible refine (pooling_any _).mono ?_); rintro e w1 ⟨rfl, hb1⟩; (have HB1 := Lib.hid (bT (w := w) ((by repeat (with_reducible first | exact HB.out | exact Below.refl _ _ | apply bA | apply bD | apply bN | refine bS ?_ (by first | assumption | (simp only []; omega) | omega)))) hb1)); clear HB; (have HB := HB1); clear HB1; (have hbb := HB.out); skip; skip; clear hb1 hbb; (obtain ⟨wl, rfl⟩ : ∃ wl : World, wl = w1 := ⟨_, rfl⟩); skip; skip)
    go_wp2
    go_ret
    exact ⟨rfl, (by repeat (with_reducible first | exact HB.out | exact Below.refl _ _ | apply bA | apply bD | apply bN | refine bS ?_ (by first | assumption | (simp only []; omega) | omega)))⟩
  · have d1 : decide ((30 : Int) < n) = false := decide_eq_false (by omega)
    go_enter Try.func3, Try.ntmps3
    go_wp2_with fail
    ((go_at_call 5); (with_reducible refine (pooled_any _ _ ops HV.out (by have := HN.out; omega)).mono ?_); rintro e w1 ⟨⟨fv, vs, st, rfl, hrun, ho, hpg⟩, hb1⟩; (have HB1 := Lib.hid (bT (w := w) ((by repeat (with_reducible first | exact HB.out | exact Below.refl _ _ | apply bA | apply bD | apply bN | refine bS ?_ (by first | assumption | (simp only []; omega) | omega)))) hb1)); clear HB; (have HB := HB1); clear HB1; (have hbb := HB.out); skip; (have hJ := (hrun.J (by have := HN.out; omega)).1); (obtain ⟨A0, n0, c0, A1, n1, c1, A2, n2, c2, A3, n3, c3, A4, n4, c4, A5, n5, c5, A6, n6, c6, A7, n7, c7, A8, n8, c8, rfl⟩ := hpg.forms hJ.len); (obtain ⟨Af, cf, rfl, _, _⟩ := ho.form); (have HO := Lib.hid ho); (have HG := Lib.hid hpg); (have HJ := Lib.hid hJ); clear ho hpg hrun hJ; clear hb1 hbb; (obtain ⟨wl, rfl⟩ : ∃ wl : World, wl = w1 := ⟨_, rfl⟩); skip; skip)
    go_wp2_with fail
    obtain ⟨Bp, hBp⟩ : ∃ Bp, Bp = wl.heap.size := ⟨_, rfl⟩
    rw [← hBp]
    have hBw : w.heap.size ≤ Bp := by rw [hBp]; exact HB.out.size
    refine wp_gen (fun W => Hid (TL W Bp (.slice Af st.fs.length cf) #[.slice A0 n0 c0, .slice A1 n1 c1, .slice A2 n2 c2, .slice A3 n3 c3, .slice A4 n4 c4, .slice A5 n5 c5, .slice A6 n6 c6, .slice A7 n7 c7, .slice A8 n8 c8] st) ∧ Hid (Below w.heap.size w W))
      ⟨Lib.hid ⟨?_, ?_, (HO.out.keep (by repeat (with_reducible first | exact Below.refl _ _ | apply bA | apply bD | apply bN))), (HG.out.keep (by repeat (with_reducible first | exact Below.refl _ _ | apply bA | apply bD | apply bN)))⟩, Lib.hid (by repeat (with_reducible first | exact HB.out | exact Below.refl _ _ | apply bA | apply bD | apply bN | refine bS ?_ (by first | assumption | (simp only []; omega) | omega)))⟩ ?_
    · unfold Two; simp only [heap_alloc_eq, size_alloc2]; rw [if_neg (by omega), if_pos hBp]
    · unfold Nine; simp only [heap_alloc_eq, size_alloc2]; rw [if_pos (by omega)]
    clear HB HO HG hBp
    rintro W ⟨HT, HB⟩
    obtain ⟨vs, hvs⟩ : ∃ vs : Array Value, vs = #[.slice A0 n0 c0, .slice A1 n1 c1, .slice A2 n2 c2, .slice A3 n3 c3, .slice A4 n4 c4, .slice A5 n5 c5, .slice A6 n6 c6, .slice A7 n7 c7, .slice A8 n8 c8] := ⟨_, rfl⟩
    rw [← hvs] at HT
    clear hvs
    go_loopw [6, 7] (fun b i wr => ∃ k : Nat, k ≤ 9 ∧ i = .int .i64 k ∧ b = .int .i64 (encTo st k) ∧ Hid (TL wr Bp (.slice Af st.fs.length cf) vs st) ∧ Hid (Below w.heap.size w wr)) (fun _ i _ => 9 - (intOf i).toNat)
    case atStart => exact ⟨0, by omega, rfl, rfl, HT, HB⟩
    case round =>
      obtain ⟨k, hk, rfl, rfl, ht, hb⟩ := hrel
      clear HT HB
      have HB := hb
      have HT := ht
      clear hb ht
      have hencle : encTo st k ≤ 1000 := Nat.le_trans (encTo_le HJ.out k) (by omega)
      by_cases hlt : k < 9
      · have d2 : decide ((k : Int) < 9) = true := decide_eq_true (by omega)
        have i1 : (0 : Int) ≤ k := by omega
        have i2 : (k : Int) < 9 := by omega
        have hsucc := encTo_succ HJ.out hlt
        obtain ⟨Ap, cp, hby, hcell⟩ := HT.out.page HJ.out hlt
        have HBY := Lib.hid hby
        obtain ⟨y0, y1, y2, y3, y4⟩ := HT.out.p.all
        have y5 := HT.out.g.lt
        obtain ⟨wl, rfl⟩ : ∃ wl : World, wl = wr := ⟨_, rfl⟩
        obtain ⟨b, hb⟩ : ∃ b, b = encTo st k := ⟨_, rfl⟩
        rw [← hb] at hsucc hencle ⊢
        by_cases hpg : pageAt st k = []
        · have hfd : (!((findFrom st.fs 0 k).1 == -1)) = false := by rw [HJ.out.no (by rw [HJ.out.pageAt_get hlt, hpg])]; rfl
          have HFD := Lib.hid hfd
          have hp0 : (pageAt st k).length = 0 := by rw [hpg]; rfl
          rw [hp0] at hcell
          have HS := Lib.hid (show encTo st (k + 1) = b by rw [hsucc, hpg]; rfl)
          clear hfd hpg hp0 hby hsucc hb
          go_wp2_with fail
          ((go_at_call 6); (with_reducible refine (Has_any _ _ st.fs k (HT.out.fr.keep (by repeat (with_reducible first | exact Below.refl _ _ | apply bA | apply bD | apply bN))) HJ.out.valid).mono ?_); rintro e w1 ⟨rfl, hb1⟩; (have HB1 := Lib.hid (bT (w := w) ((by repeat (with_reducible first | exact HB.out | exact Below.refl _ _ | apply bA | apply bD | apply bN | refine bS ?_ (by first | assumption | (simp only []; omega) | omega)))) hb1)); clear HB; (have HB := HB1); clear HB1; (have hbb := bT (w := wl) (by repeat (with_reducible first | exact Below.refl _ _ | apply bA | apply bD | apply bN)) hb1); (have N_ := Lib.hid (HT.out.keep hbb)); clear HT; (have HT := N_); clear N_; (rw [HFD.out]); clear y0 y1 y2 y3 y4 y5 hcell; clear hb1 hbb; (obtain ⟨wl, rfl⟩ : ∃ wl : World, wl = w1 := ⟨_, rfl⟩); skip; skip)
          go_wp2
          go_roundw
          case rel => exact ⟨k + 1, by omega, by go_num, by rw [HS.out], HT, HB⟩
          case measure => simp [intOf]; omega
        · have hfd : (!((findFrom st.fs 0 k).1 == -1)) = true := by
            obtain ⟨i, f, j, _, _, hfind, _⟩ := HJ.out.yes (HJ.out.pageAt_get hlt) hpg
            rw [hfind]
            simp
          have HFD := Lib.hid hfd
          have hp32 : (pageAt st k).length = 32 := by
            rcases HJ.out.page _ (List.mem_of_getElem? (HJ.out.pageAt_get hlt)) with h | h
            · exact (hpg h).elim
            · exact h
          rw [hp32] at hcell HBY
          have HP32 := Lib.hid hp32
          obtain ⟨m, hm'⟩ : ∃ m, m = (packF (pageAt st k)).length := ⟨_, rfl⟩
          have HM := Lib.hid hm'
          have HS := Lib.hid (show encTo st (k + 1) = b + m by rw [hsucc, hm']; unfold encLen; rw [if_neg hpg])
          have hm1000 : m ≤ 1000 := by
            obtain ⟨_, _, _, _, _, _, _, _, hl24⟩ := HJ.out.yes (HJ.out.pageAt_get hlt) hpg
            omega
          clear hfd hpg hp32 hby hsucc hb hm'
          go_wp2_with fail
          ((go_at_call 6); (with_reducible refine (Has_any _ _ st.fs k (HT.out.fr.keep (by repeat (with_reducible first | exact Below.refl _ _ | apply bA | apply bD | apply bN))) HJ.out.valid).mono ?_); rintro e w1 ⟨rfl, hb1⟩; (have HB1 := Lib.hid (bT (w := w) ((by repeat (with_reducible first | exact HB.out | exact Below.refl _ _ | apply bA | apply bD | apply bN | refine bS ?_ (by first | assumption | (simp only []; omega) | omega)))) hb1)); clear HB; (have HB := HB1); clear HB1; (have hbb := bT (w := wl) (by repeat (with_reducible first | exact Below.refl _ _ | apply bA | apply bD | apply bN)) hb1); (have N_ := Lib.hid (HT.out.keep hbb)); clear HT; (have HT := N_); clear N_; (have N_ := Lib.hid (HBY.out.keep hbb)); clear HBY; (have HBY := N_); clear N_; (rw [HFD.out]); (have hcell2 := cell_keep hb1 (by first | exact hcell | go_simp)); clear hcell; (have hcell := hcell2); clear hcell2; clear y0 y1 y2 y3 y4 y5; clear hb1 hbb; (obtain ⟨wl, rfl⟩ : ∃ wl : World, wl = w1 := ⟨_, rfl⟩); skip; (obtain ⟨y0, y1, y2, y3, y4⟩ := HT.out.p.all); (have y5 := HT.out.g.lt))
          go_wp2_with fail
          ((go_at_call 7); (with_reducible refine (pack_any _ _ (pageAt st k) (HBY.out.keep (by repeat (with_reducible first | exact Below.refl _ _ | apply bA | apply bD | apply bN))) HP32.out).mono ?_); rintro e w1 ⟨⟨v', rfl, ho⟩, hb1⟩; (have HB1 := Lib.hid (bT (w := w) ((by repeat (with_reducible first | exact HB.out | exact Below.refl _ _ | apply bA | apply bD | apply bN | refine bS ?_ (by first | assumption | (simp only []; omega) | omega)))) hb1)); clear HB; (have HB := HB1); clear HB1; (have hbb := bT (w := wl) (by repeat (with_reducible first | exact Below.refl _ _ | apply bA | apply bD | apply bN)) hb1); (have N_ := Lib.hid (HT.out.keep hbb)); clear HT; (have HT := N_); clear N_; (obtain ⟨A', c', rfl, _, _⟩ := ho.form); (rw [← HM.out] at ho ⊢); clear ho hcell y0 y1 y2 y3 y4 y5; clear hb1 hbb; (obtain ⟨wl, rfl⟩ : ∃ wl : World, wl = w1 := ⟨_, rfl⟩); skip; skip)
          have hw : IntKind.i64.wrap ((b : Int) + m) = (b : Int) + m := IntWalk.i64_in _ (by omega)
          go_wp2
          go_roundw
          case rel => exact ⟨k + 1, by omega, by go_num, by rw [HS.out]; go_num, HT, HB⟩
          case measure => simp [intOf]; omega
      · have d2 : decide ((k : Int) < 9) = false := decide_eq_false (by omega)
        obtain rfl : k = 9 := by omega
        obtain ⟨b, hb⟩ : ∃ b, b = encTo st 9 := ⟨_, rfl⟩
        rw [← hb] at hencle ⊢
        have hus := HJ.out.used
        rw [← encTo_nine HJ.out, ← hb] at hus
        have h4 := HJ.out.valid.1
        obtain ⟨q, hq⟩ : ∃ q, q = waste st.fs := ⟨_, rfl⟩
        rw [← hq] at hus
        have HU := Lib.hid (show (st.fs.length * 32 - waste st.fs : Int) = (b : Int) by rw [← hq]; omega)
        have HQ := Lib.hid hq.symm
        have e1 : IntKind.i64.wrap ((b : Int) + q) = 32 * (st.fs.length : Int) := by rw [IntWalk.i64_in _ (by omega), hus]
        have e2 : IntKind.i64.wrap (32 * (st.fs.length : Int)) = 32 * (st.fs.length : Int) := IntWalk.i64_in _ (by omega)
        obtain ⟨y0, y1, y2, y3, y4⟩ := HT.out.p.all
        have y5 := HT.out.g.lt
        obtain ⟨wl, rfl⟩ : ∃ wl : World, wl = wr := ⟨_, rfl⟩
        clear hus hq hb hk hlt
        go_wp2
        go_region_held3 (fun w' => w'.cell? ⟨Bp, 0, none⟩ = some (.int .i64 4) ∧ w'.cell? ⟨Bp, 1, none⟩ = some (.slice Af st.fs.length cf) ∧ TL w' Bp (.slice Af st.fs.length cf) vs st ∧ Below w.heap.size w w')
          (first | exact ⟨j0, j1, ht1, hbw⟩ | exact ⟨y0, y1, HT.out.keep (bD (Below.refl _ _)), bD HB.out⟩)
          (first
            | ((go_at_call 8); go_split_ands; (refine (used_any _ _ st.fs (TL.fr (by assumption)) HJ.out.valid).mono ?_); rintro e w1 ⟨rfl, hb1⟩; (have ht1 : TL w1 Bp (.slice Af st.fs.length cf) vs st := TL.keep (by assumption) hb1); (have hbw : Below w.heap.size w w1 := bT (by assumption) hb1); (obtain ⟨j0, j1, _⟩ := ht1.p.all); (rw [HU.out]))
            | ((go_at_call 9); go_split_ands; (refine (waste_any _ _ st.fs (TL.fr (by assumption)) HJ.out.valid).mono ?_); rintro e w1 ⟨rfl, hb1⟩; (have ht1 : TL w1 Bp (.slice Af st.fs.length cf) vs st := TL.keep (by assumption) hb1); (have hbw : Below w.heap.size w w1 := bT (by assumption) hb1); (obtain ⟨j0, j1, _⟩ := ht1.p.all); (rw [HQ.out]))
            | ((go_at_call 4); go_split_ands; (refine (pooling_any _).mono ?_); rintro e w1 ⟨rfl, hb1⟩; (have ht1 : TL w1 Bp (.slice Af st.fs.length cf) vs st := TL.keep (by assumption) hb1); (have hbw : Below w.heap.size w w1 := bT (by assumption) hb1); (obtain ⟨j0, j1, _⟩ := ht1.p.all); skip))
        all_goals
          go_wp2
          go_ret
          exact ⟨rfl, by assumption⟩
end Go.Proofs.Ytfdmmbalfjcehaa
