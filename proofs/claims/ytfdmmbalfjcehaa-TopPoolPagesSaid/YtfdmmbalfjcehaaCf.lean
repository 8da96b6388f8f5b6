/- Contract of compress.packMatches. -/
import Derived.Test.YtfdmmbalfjcehaaCe
namespace Go.Proofs.Ytfdmmbalfjcehaa
open Go.RowKit
set_option linter.unusedVariables false
set_option linter.unusedSimpArgs false
attribute [local go_sem] lt_more lt_more2 lt_more3 lt_more4 lt_more5 lt_more6 lt_more7 lt_more8

/-- The match encoding from the place i on, where the literals begin at fi. -/
def pmFrom (l : List UInt8) : Nat → Nat → Nat → List UInt8
  | 0, i, fi => lits l fi l.length
  | f + 1, i, fi => if i < l.length then
      (if (matchF l i).1 < 3 then pmFrom l f (i + 1) fi
       else lits l fi i ++ [UInt8.ofNat ((matchF l i).1 + 29), UInt8.ofNat (matchF l i).2] ++ pmFrom l f (i + (matchF l i).1) (i + (matchF l i).1))
    else lits l fi l.length
def packMatchesF (l : List UInt8) : List UInt8 := 2 :: pmFrom l 33 0 0

theorem lits_nil {l : List UInt8} {a b : Nat} (h : ¬ a < b) : lits l a b = [] := by unfold lits; rw [if_neg h]
theorem lits_le {l : List UInt8} {a b : Nat} (h : b ≤ l.length) (hab : a ≤ b) : (lits l a b).length ≤ 1 + (b - a) := by
  unfold lits
  split
  · simp; omega
  · simp
theorem flush_any (w : World) (base fi te B1 B2 B3 g c : Nat) (l done : List UInt8) (ov : Value) (hto : te ≤ 32) (h23 : B2 ≠ B3) (h1 : One w B1 3 (.int .i64 fi)) (h2 : One w B2 27 ov) (h3 : One w B3 27 (.slice (some ⟨g, 0, none⟩) 32 c))
    (hb2 : base ≤ B2) (hown : w.ownsRow base 5 1 ov done.length (done.map bc)) (hdl : done.length ≤ 1000) (hc : ∀ j u, l[j]? = some u → w.cell? ⟨g, j, none⟩ = some (bc u)) (hl : l.length = 32) (hg : g < base) (hc32 : 32 ≤ c) (hbase : base ≤ w.heap.size) :
    Calls Try.prog 37 #[.int .i64 te, .pointer (some ⟨B1, 0, none⟩), .pointer (some ⟨B2, 0, none⟩), .pointer (some ⟨B3, 0, none⟩)] w fun e w' => e = .returned (.tuple #[]) ∧
      ∃ ov', One w' B1 3 (.int .i64 fi) ∧ One w' B2 27 ov' ∧ One w' B3 27 (.slice (some ⟨g, 0, none⟩) 32 c) ∧ w'.ownsRow base 5 1 ov' (done ++ lits l fi te).length ((done ++ lits l fi te).map bc) ∧ Below base w w' := by
  by_cases h : fi < te
  · exact flush_yes w base fi te B1 B2 B3 g c l done ov h hto h23 h1 h2 h3 hb2 hown hdl hc hl hg hc32 hbase
  · refine (flush_no w fi te B1 B2 B3 h h1).mono ?_
    rintro e w' ⟨rfl, rfl⟩
    rw [lits_nil h, List.append_nil]
    exact ⟨rfl, ov, h1, h2, h3, hown, Below.refl _ _⟩
/-- What holds between two rounds. -/
def PM (w wr : World) (g c fi : Nat) (done : List UInt8) (ov : Value) : Prop :=
  One wr (w.heap.size + 1 + 1 + 1) 3 (.int .i64 fi) ∧ One wr (w.heap.size + 1 + 1) 27 ov ∧ One wr w.heap.size 27 (.slice (some ⟨g, 0, none⟩) 32 c) ∧ wr.ownsRow w.heap.size 5 1 ov done.length (done.map bc) ∧ Below w.heap.size w wr
theorem matchF_bd {l : List UInt8} {i : Nat} (hl : l.length = 32) (hi : i < 32) : i + (matchF l i).1 ≤ 32 ∧ (matchF l i).2 ≤ i := by
  have := mTo_bd l i i (by omega); rw [hl] at this; exact this
theorem pm_end {l : List UInt8} {f fi : Nat} (hl : l.length = 32) : pmFrom l f 32 fi = lits l fi 32 := by
  cases f with
  | zero => rw [pmFrom, hl]
  | succ f => rw [pmFrom, if_neg (by omega), hl]
theorem pm_fuel {l : List UInt8} (hl : l.length = 32) : ∀ f f' i fi, 32 < i + f → 32 < i + f' → pmFrom l f i fi = pmFrom l f' i fi := by
  intro f
  induction f with
  | zero =>
    intro f' i fi h h'
    cases f' with
    | zero => rfl
    | succ f' => rw [pmFrom, pmFrom, if_neg (by omega)]
  | succ f ih =>
    intro f' i fi h h'
    cases f' with
    | zero => rw [pmFrom, pmFrom, if_neg (by omega)]
    | succ f' =>
      rw [pmFrom, pmFrom]
      by_cases hi : i < l.length
      · rw [if_pos hi, if_pos hi]
        by_cases h3 : (matchF l i).1 < 3
        · rw [if_pos h3, if_pos h3, ih f' (i + 1) fi (by omega) (by omega)]
        · rw [if_neg h3, if_neg h3, ih f' (i + (matchF l i).1) _ (by omega) (by omega)]
      · rw [if_neg hi, if_neg hi]
theorem pm_short {l : List UInt8} {k fi : Nat} {done : List UInt8} (hl : l.length = 32) (hk : k < 32) (hp : packMatchesF l = done ++ pmFrom l (33 - k) k fi) (h3 : (matchF l k).1 < 3) :
    packMatchesF l = done ++ pmFrom l (33 - (k + 1)) (k + 1) fi := by
  rw [hp, show 33 - k = (32 - k) + 1 by omega, pmFrom, if_pos (by omega), if_pos h3, pm_fuel hl (32 - k) (33 - (k + 1)) (k + 1) fi (by omega) (by omega)]
theorem pm_long {l : List UInt8} {k fi : Nat} {done : List UInt8} (hl : l.length = 32) (hk : k < 32) (hp : packMatchesF l = done ++ pmFrom l (33 - k) k fi) (h3 : ¬ (matchF l k).1 < 3) :
    packMatchesF l = (done ++ lits l fi k ++ [UInt8.ofNat ((matchF l k).1 + 29), UInt8.ofNat (matchF l k).2]) ++ pmFrom l (33 - (k + (matchF l k).1)) (k + (matchF l k).1) (k + (matchF l k).1) := by
  rw [hp, show 33 - k = (32 - k) + 1 by omega, pmFrom, if_pos (by omega), if_neg h3, pm_fuel hl (32 - k) (33 - (k + (matchF l k).1)) _ _ (by omega) (by have := (matchF_bd hl hk).1; omega)]
  simp only [List.append_assoc]

set_option maxHeartbeats 8000000 in
set_option maxRecDepth 100000 in
theorem packMatches_any (w : World) (v : Value) (l : List UInt8) (hv : ByV w v l) (hl : l.length = 32) :
    Calls Try.prog 20 #[v] w fun e w' => (∃ v', e = .returned v' ∧ ByV w' v' (packMatchesF l)) ∧ Below w.heap.size w w' := by
  obtain ⟨g, c, rfl, h1, h2, hg, hc⟩ := page_at hv (by omega)
  obtain ⟨i0, hi, hz0, hz1, hz2⟩ := info_parts info5
  have HB := Lib.hid (Below.refl w.heap.size w)
  have HV := Lib.hid hv
  rw [hl] at h1 HV ⊢
  have HC := Lib.hid hc
  have HL := Lib.hid hl
  have hbase : w.heap.size ≤ w.heap.size := Nat.le_refl _
  clear hv hc hl
  go_enter Try.func20, Try.ntmps20
  go_wp2
  go_loopw [6] (fun i wr => ∃ (k fi : Nat) (done : List UInt8) (ov : Value), k ≤ 32 ∧ fi ≤ k ∧ i = .int .i64 k ∧ Hid (PM w wr g c fi done ov) ∧ done.length ≤ 1 + 3 * fi ∧ Hid (packMatchesF l = done ++ pmFrom l (33 - k) k fi)) (fun i _ => 32 - (intOf i).toNat)
  case atStart =>
    refine ⟨0, 0, [2], .slice (some ⟨w.heap.size + 1, 0, none⟩) 1 1, Nat.zero_le _, Nat.le_refl _, rfl, Lib.hid ⟨?_, ?_, ?_, ?_, ?_⟩, by simp, Lib.hid rfl⟩
    · unfold One; simp only [heap_alloc_eq, size_alloc2, ↓reduceIte]; repeat (first | rw [if_pos (by omega)] | rw [if_neg (by omega)])
      rfl
    · unfold One; simp only [heap_alloc_eq, size_alloc2, ↓reduceIte]; repeat (first | rw [if_pos (by omega)] | rw [if_neg (by omega)])
    · unfold One; simp only [heap_alloc_eq, size_alloc2, ↓reduceIte]; repeat (first | rw [if_pos (by omega)] | rw [if_neg (by omega)])
    · have h0 := World.ownsRow_lit (base := w.heap.size) (e := 5) (size := 1) (w.alloc (Obj.cells #[Value.slice (some ⟨g, 0, none⟩) 32 c] 27)) #[.int .u8 2] 1 (by simp) (by simp [maxLen]) rfl
      rw [size_alloc2] at h0
      exact (h0.alloc _).alloc _
    · exact (by repeat (with_reducible first | exact HB.out | exact Below.refl _ _ | apply bA | apply bD | apply bN | refine bS ?_ (by first | assumption | (simp only []; omega) | omega)))
  case round =>
    obtain ⟨k, fi, done, ov, hk, hfk, rfl, hpm, hlen, hp⟩ := hrel
    obtain ⟨p1, p2, p3, p4, hb⟩ := hpm.out
    have P1 := Lib.hid p1
    have P2 := Lib.hid p2
    have P3 := Lib.hid p3
    have P4 := Lib.hid p4
    clear HB
    have HB := Lib.hid hb
    have HVr := Lib.hid (HV.out.below hb)
    have x1 := p1.cell
    have x2 := p2.cell
    have x3 := p3.cell
    clear p1 p2 p3 p4 hb hpm
    by_cases hlt : k < 32
    · have dk : decide ((k : Int) < 32) = true := decide_eq_true (by omega)
      obtain ⟨n, o, hno⟩ : ∃ n o, matchF l k = (n, o) := ⟨_, _, rfl⟩
      have hbd := matchF_bd HL.out hlt
      rw [hno] at hbd
      obtain ⟨hn32, hok⟩ := hbd
      simp only [] at hn32 hok
      have HM := Lib.hid (show (matchF l k).1 = n by rw [hno])
      have HO := Lib.hid (show (matchF l k).2 = o by rw [hno])
      clear hno
      by_cases hn3 : n < 3
      · have d3 : decide ((n : Int) < 3) = true := decide_eq_true (by omega)
        have s1 : IntKind.i64.wrap ((k : Int) + 1) = (k : Int) + 1 := IntWalk.i64_in _ (by omega)
        go_wp2_with ((go_at_call 38); (with_reducible refine (match_any _ _ l k HVr.out HL.out hlt).mono ?_); (rw [HM.out, HO.out]); rintro e w1 ⟨rfl, q, rfl⟩)
        refine ⟨⟨k + 1, fi, done, ov, by omega, by omega, by go_num, Lib.hid ⟨P1.out, P2.out, P3.out, P4.out, bN HB.out⟩, hlen, Lib.hid (pm_short HL.out hlt hp.out (by rw [HM.out]; exact hn3))⟩, ?_⟩
        simp [intOf]; omega
      · have d3 : decide ((n : Int) < 3) = false := decide_eq_false (by omega)
        have s1 : IntKind.i64.wrap ((k : Int) + n) = (k : Int) + n := IntWalk.i64_in _ (by omega)
        have s2 : IntKind.i64.wrap ((n : Int) + 29) = (n : Int) + 29 := IntWalk.i64_in _ (by omega)
        have s3 : IntKind.u8.wrap ((n : Int) + 29) = (n : Int) + 29 := IntWalk.u8_in _ (by omega)
        have s4 : IntKind.u8.wrap (o : Int) = (o : Int) := IntWalk.u8_in _ (by omega)
        have hsz := HB.out.size
        have hlen2 : (done ++ lits l fi k).length ≤ 200 := by have := lits_le (l := l) (a := fi) (b := k) (by have := HL.out; omega) hfk; simp; omega
        go_wp2_with (first
          | ((go_at_call 38); (with_reducible refine (match_any _ _ l k HVr.out HL.out hlt).mono ?_); (rw [HM.out, HO.out]); rintro e w1 ⟨rfl, q, rfl⟩)
          | ((go_at_call 37)
             have Q1 : One (wr.drewN q) (w.heap.size + 1 + 1 + 1) 3 (.int .i64 fi) := P1.out
             have Q2 : One (wr.drewN q) (w.heap.size + 1 + 1) 27 ov := P2.out
             have Q3 : One (wr.drewN q) w.heap.size 27 (.slice (some ⟨g, 0, none⟩) 32 c) := P3.out
             have Q4 : (wr.drewN q).ownsRow w.heap.size 5 1 ov done.length (done.map bc) := P4.out
             have QC : ∀ j u, l[j]? = some u → (wr.drewN q).cell? ⟨g, j, none⟩ = some (bc u) := fun j u hu => (HB.out.cell (p := ⟨g, j, none⟩) hg).trans (HC.out j u hu)
             refine (flush_any (wr.drewN q) w.heap.size fi k _ _ _ g c l done ov hk (by omega) Q1 Q2 Q3 (by omega) Q4 (by omega) QC HL.out hg h1 hsz).mono ?_
             rintro e w2 ⟨rfl, ov2, r1, r2, r3, r4, hb2⟩
             have HB2 := Lib.hid ((bN (n := q) HB.out).trans hb2)
             have R1 := Lib.hid r1
             have R2 := Lib.hid r2
             have R3 := Lib.hid r3
             have R4 := Lib.hid r4
             have y2 := r2.cell
             clear r1 r2 r3 r4 hb2 Q1 Q2 Q3 Q4 QC)
          | (at_builtin
             refine wpList_append_own _ rfl _ _ 27 rfl w.heap.size 5 i0 _ 1 1 Try.underlying27 hi hz0 hz1 hz2 rfl (by decide) _ _ _ rfl (R4.out.alloc _) ⟨w2.heap.size, 0, none⟩ 2 2 [.int .u8 ((n : Int) + 29), .int .u8 o] rfl rfl (newc w2 _ 5) (by intro u hu; simp at hu; rcases hu with rfl | rfl <;> rfl) (by unfold maxLen; omega) (by omega) (by have := HB2.out.size; simp only [size_alloc2]; omega) ?_
             intro v3 w3 hown3 hgrow3 hnil3
             obtain ⟨g3, cap3, rfl, _, _⟩ := hown3.form (by omega)
             have b1 := own_ne R4.out R1.out (by decide)
             have b2 := own_ne R4.out R2.out (by decide)
             have b3 := own_ne R4.out R3.out (by decide)
             have S1 := Lib.hid ((R1.out.alloc _).grown hgrow3 b1)
             have S2 := Lib.hid ((R2.out.alloc _).grown hgrow3 b2)
             have S3 := Lib.hid ((R3.out.alloc _).grown hgrow3 b3)
             have HO3 := Lib.hid hown3
             have HB3 := Lib.hid (Below.grown (B := w.heap.size) (a := w) (bA HB2.out) hgrow3 (by have := HB2.out.size; simp only [size_alloc2]; omega) (fun r hr => (R4.out.lt r hr).1))
             have z1 := S1.out.cell
             have z2 := S2.out.cell
             have g1 := S1.out.frozen
             have g2 := S2.out.frozen
             clear b1 b2 b3 hown3 hgrow3 hnil3 y2))
        have hn0 : (UInt8.ofNat (n + 29)).toNat = n + 29 := by rw [UInt8.toNat_ofNat']; omega
        have ho0 : (UInt8.ofNat o).toNat = o := by rw [UInt8.toNat_ofNat']; omega
        have hlen3 := lits_le (l := l) (a := fi) (b := k) (by have := HL.out; omega) hfk
        refine ⟨⟨k + n, k + n, done ++ lits l fi k ++ [UInt8.ofNat (n + 29), UInt8.ofNat o], .slice (some ⟨g3, 0, none⟩) (done.length + (lits l fi k).length + 2) cap3, hn32, Nat.le_refl _, by go_num, Lib.hid ⟨?_, ?_, ?_, ?_, ?_⟩, ?_, Lib.hid ?_⟩, ?_⟩
        · have := (S1.out.far (p := ⟨w.heap.size + 1 + 1, 0, none⟩) (x := .slice (some ⟨g3, 0, none⟩) (done.length + (lits l fi k).length + 2) cap3) (by simp)).set_ (x := .int .i64 ((k : Int) + n))
          rw [show ((k + n : Nat) : Int) = (k : Int) + n by omega]
          exact this
        · exact S2.out.set_.far (by simp)
        · exact (S3.out.far (by simp; omega)).far (by simp; omega)
        · have e1 : (done ++ lits l fi k ++ [UInt8.ofNat (n + 29), UInt8.ofNat o]).length = (done ++ lits l fi k).length + 2 := by rw [List.length_append]; rfl
          have e2 : (done ++ lits l fi k ++ [UInt8.ofNat (n + 29), UInt8.ofNat o]).map bc = (done ++ lits l fi k).map bc ++ [.int .u8 ((n : Int) + 29), .int .u8 o] := by
            rw [List.map_append]; congr 1; simp only [bc, List.map_cons, List.map_nil, hn0, ho0]; rfl
          rw [e1, e2]
          have h5 := HO3.out
          simp only [List.length_append] at h5 ⊢
          exact own_far (own_far27 h5 S2.out) (S1.out.far (p := ⟨w.heap.size + 1 + 1, 0, none⟩) (by simp)) (by decide)
        · exact (HB3.out.setCell (by simp; omega) _).setCell (by simp; omega) _
        · simp; omega
        · have := pm_long HL.out hlt hp.out (by rw [HM.out]; exact hn3)
          rw [HM.out, HO.out] at this
          exact this
        · simp [intOf]; omega
    · have dk : decide ((k : Int) < 32) = false := decide_eq_false (by omega)
      have hk32 := Lib.hid (show k = 32 by omega)
      have hfk2 : fi ≤ 32 := by omega
      have hsz := HB.out.size
      have hlen2 : (done ++ lits l fi 32).length ≤ 200 := by have := lits_le (l := l) (a := fi) (b := 32) (by have := HL.out; omega) hfk2; simp; omega
      have QC : ∀ j u, l[j]? = some u → wr.cell? ⟨g, j, none⟩ = some (bc u) := fun j u hu => (HB.out.cell (p := ⟨g, j, none⟩) hg).trans (HC.out j u hu)
      have HF := Lib.hid (flush_any wr w.heap.size fi 32 _ _ _ g c l done ov (Nat.le_refl _) (by omega) P1.out P2.out P3.out (by omega) P4.out (by omega) QC HL.out hg h1 hsz)
      rw [show ((32 : Nat) : Int) = 32 from rfl] at HF
      clear QC
      go_wp2_with (
          ((go_at_call 37)
           refine HF.out.mono ?_
           rintro e w2 ⟨rfl, ov2, r1, r2, r3, r4, hb2⟩
           have HB2 := Lib.hid (HB.out.trans hb2)
           have R2 := Lib.hid r2
           have R4 := Lib.hid r4
           have y2 := r2.cell
           clear r1 r2 r3 r4 hb2))
      go_ret
      have e : packMatchesF l = done ++ lits l fi 32 := by rw [hp.out, hk32.out, pm_end HL.out]
      rw [e]
      exact ⟨⟨_, rfl, own_mono R4.out (Nat.zero_le _)⟩, HB2.out⟩
end Go.Proofs.Ytfdmmbalfjcehaa
