/- Contract of compress.match: the longest match at a place. -/
import Derived.Test.YtfdmmbalfjcehaaCc
import Derived.Deep.LoopGhost
namespace Go.Proofs.Ytfdmmbalfjcehaa
open Go.RowKit
set_option linter.unusedVariables false
set_option linter.unusedSimpArgs false
attribute [local go_sem] lt_more lt_more2 lt_more3 lt_more4 lt_more5 lt_more6 lt_more7 lt_more8

/-- The byte n behind the place a is there and is the one o before it. -/
def eqB (l : List UInt8) (a o n : Nat) : Bool := decide (a + n < l.length) && (l[a + n]? == l[a + n - o]?)
/-- How far the match with offset o goes, from n on, at most f bytes. -/
def mExt (l : List UInt8) (a o : Nat) : Nat → Nat → Nat
  | 0, n => n
  | f + 1, n => if eqB l a o n then mExt l a o f (n + 1) else n
/-- All of the first n + 1 bytes match. -/
def mAll (l : List UInt8) (a o : Nat) : Nat → Bool
  | 0 => eqB l a o 0
  | n + 1 => mAll l a o n && eqB l a o (n + 1)
/-- The greatest length and its smallest offset, of the offsets up to o. -/
def mTo (l : List UInt8) (a : Nat) : Nat → Nat × Nat
  | 0 => (0, 0)
  | o + 1 => if mAll l a (o + 1) (mTo l a o).1 then (mExt l a (o + 1) 33 (mTo l a o).1, o + 1) else mTo l a o
def matchF (l : List UInt8) (a : Nat) : Nat × Nat := mTo l a a

theorem mExt_le (l : List UInt8) (a o f n : Nat) : n ≤ mExt l a o f n := by
  induction f generalizing n with
  | zero => exact Nat.le_refl _
  | succ f ih =>
    unfold mExt
    split
    · have := ih (n + 1); omega
    · exact Nat.le_refl _
theorem mExt_bd (l : List UInt8) (a o f n : Nat) (h : a + n ≤ l.length) : a + mExt l a o f n ≤ l.length := by
  induction f generalizing n with
  | zero => exact h
  | succ f ih =>
    unfold mExt
    split
    · rename_i he
      exact ih (n + 1) (by simp [eqB] at he; omega)
    · exact h
theorem mTo_bd (l : List UInt8) (a o : Nat) (ha : a ≤ l.length) : a + (mTo l a o).1 ≤ l.length ∧ (mTo l a o).2 ≤ o := by
  induction o with
  | zero => exact ⟨by simpa [mTo] using ha, Nat.le_refl _⟩
  | succ o ih =>
    unfold mTo
    split
    · exact ⟨mExt_bd _ _ _ _ _ ih.1, Nat.le_refl _⟩
    · exact ⟨ih.1, by omega⟩
theorem mExt_step {l : List UInt8} {a o f n : Nat} (h : eqB l a o n = true) : mExt l a o (f + 1) n = mExt l a o f (n + 1) := by rw [mExt, if_pos h]
theorem mExt_end {l : List UInt8} {a o f n : Nat} (h : eqB l a o n = false) : mExt l a o f n = n := by
  cases f with
  | zero => rfl
  | succ f => rw [mExt, if_neg (by rw [h]; simp)]
theorem mAll_false {l : List UInt8} {a o n m : Nat} (h : eqB l a o n = false) (hm : n ≤ m) : mAll l a o m = false := by
  induction m with
  | zero => obtain rfl : n = 0 := by omega
            exact h
  | succ m ih =>
    unfold mAll
    by_cases e : n = m + 1
    · subst e; rw [h, Bool.and_false]
    · rw [ih (by omega), Bool.false_and]
theorem mAll_true {l : List UInt8} {a o m : Nat} (h : ∀ n, n ≤ m → eqB l a o n = true) : mAll l a o m = true := by
  induction m with
  | zero => exact h 0 (Nat.le_refl _)
  | succ m ih => unfold mAll; rw [ih (fun n hn => h n (by omega)), h (m + 1) (Nat.le_refl _)]; rfl

set_option maxHeartbeats 8000000 in
set_option maxRecDepth 100000 in
theorem match_any (w : World) (v : Value) (l : List UInt8) (k : Nat) (hv : ByV w v l) (hl : l.length = 32) (hk : k < 32) :
    Calls Try.prog 38 #[v, .int .i64 k] w fun e w' => e = .returned (.tuple #[.int .i64 (matchF l k).1, .int .i64 (matchF l k).2]) ∧ ∃ q, w' = w.drewN q := by
  obtain ⟨g, c, rfl, h1, h2, hg, hc⟩ := page_at hv (by omega)
  rw [hl] at h1 ⊢
  have HC := Lib.hid hc
  have HL := Lib.hid hl
  clear hv hc hl
  go_enter Try.func38, Try.ntmps38
  go_wp2
  go_step3
  go_wp2
  go_step3
  go_wp2
  go_loopg [4, 5, 6] k (fun gh len off os wr => ∃ (o L F q : Nat), 1 ≤ o ∧ gh + o = k + 1 ∧ os = .int .i64 o ∧ len = .int .i64 L ∧ off = .int .i64 F ∧ k + L ≤ 32 ∧ wr = w.drewN q ∧ Hid (mTo l k (o - 1) = (L, F)))
  case atStart => exact ⟨1, 0, 0, 0, Nat.le_refl _, by omega, rfl, rfl, rfl, by omega, rfl, Lib.hid rfl⟩
  case round =>
    obtain ⟨o, L, F, q, ho1, hgo, rfl, rfl, rfl, hkL, rfl, hm⟩ := hrel
    by_cases hlt : o ≤ k
    · have t1 : (o : Int) ≤ k := by omega
      have t2 : decide ((o : Int) ≤ k) = true := decide_eq_true t1
      have HG := Lib.hid hgo
      clear hgo
      go_wp2_with fail
      go_loopg [7] (L + 1) (fun gh ns w2 => ∃ (n q2 : Nat), n ≤ L + 1 ∧ gh + n = L + 1 ∧ ns = .int .i64 n ∧ w2 = w.drewN q2 ∧ Hid (∀ i, i < n → eqB l k o i = true))
      case atStart => exact ⟨0, q, by omega, by omega, rfl, rfl, Lib.hid fun i hi => by omega⟩
      case round =>
        obtain ⟨n, q2, hn1, hgn, rfl, rfl, hall⟩ := hrel
        have HG2 := Lib.hid hgn
        clear hgn
        by_cases hnL : n ≤ L
        · have t3 : (n : Int) ≤ L := by omega
          have t4 : decide ((n : Int) ≤ L) = true := decide_eq_true t3
          have s1 : IntKind.i64.wrap ((k : Int) + n) = (k : Int) + n := IntWalk.i64_in _ (by omega)
          have s2 : (0 : Int) ≤ (k : Int) + n := by omega
          have s3 : ((k : Int) + n).toNat = k + n := by omega
          have s4 : IntKind.i64.wrap ((k : Int) + n - o) = (k : Int) + n - o := IntWalk.i64_in _ (by omega)
          have s5 : (0 : Int) ≤ (k : Int) + n - o := by omega
          have s6 : ((k : Int) + n - o).toNat = k + n - o := by omega
          by_cases hin : k + n < 32
          · have s7 : (k : Int) + n < 32 := by omega
            have s7b : (k : Int) + n - o < 32 := by omega
            obtain ⟨y1, hy1⟩ : ∃ y, l[k + n]? = some y := ⟨l[k + n]'(by have := HL.out; omega), List.getElem?_eq_getElem _⟩
            obtain ⟨y2, hy2⟩ : ∃ y, l[k + n - o]? = some y := ⟨l[k + n - o]'(by have := HL.out; omega), List.getElem?_eq_getElem _⟩
            have c1 : w.cell? ⟨g, k + n, none⟩ = some (.int .u8 (y1.toNat : Int)) := HC.out _ _ hy1
            have c2 : w.cell? ⟨g, k + n - o, none⟩ = some (.int .u8 (y2.toNat : Int)) := HC.out _ _ hy2
            have HE := Lib.hid (show eqB l k o n = (y1 == y2) by simp [eqB, hy1, hy2, HL.out]; omega)
            clear hy1 hy2
            have d1 : decide ((32 : Int) ≤ (k : Int) + n) = false := decide_eq_false (by omega)
            by_cases hyy : y1 = y2
            · have b1 : ((y1.toNat : Int) != (y2.toNat : Int)) = false := by rw [hyy]; simp
              have HT := Lib.hid (show eqB l k o n = true by rw [HE.out, hyy]; simp)
              clear hyy
              go_wp2_with fail
              go_quiet (fail)
              clear s1 s3 s4 s6 d1
              go_wp2
              go_roundg (L + 1 - (n + 1))
              case measure => have := HG2.out; omega
              case rel => exact ⟨n + 1, _, by omega, by omega, by go_num, rfl, Lib.hid fun i hi => by
                by_cases e : i = n
                · rw [e]; exact HT.out
                · exact hall.out i (by omega)⟩
            · have b1 : ((y1.toNat : Int) != (y2.toNat : Int)) = true := by
                rw [bne_iff_ne]; intro h; exact hyy (UInt8.toNat_inj.1 (by omega))
              have HT := Lib.hid (show eqB l k o n = false by rw [HE.out]; simp [hyy])
              clear hyy
              go_wp2_with fail
              go_quiet (fail)
              clear s1 s3 s4 s6 d1
              go_wp2
              go_roundg (k - o)
              case measure => have := HG.out; omega
              case rel => exact ⟨o + 1, L, F, _, by omega, by omega, by go_num, rfl, rfl, hkL, rfl, Lib.hid (by
                obtain ⟨t, rfl⟩ : ∃ t, o = t + 1 := ⟨o - 1, by omega⟩
                rw [Nat.add_sub_cancel, mTo, if_neg, ← hm.out, Nat.add_sub_cancel]
                have := hm.out; rw [Nat.add_sub_cancel] at this; rw [this, mAll_false HT.out hnL]; simp)⟩
          · have d1 : decide ((32 : Int) ≤ (k : Int) + n) = true := decide_eq_true (by omega)
            have HT := Lib.hid (show eqB l k o n = false by simp [eqB, HL.out]; omega)
            go_wp2_with fail
            go_quiet (fail)
            clear s1 s3 s4 s6 d1
            go_wp2
            go_roundg (k - o)
            case measure => have := HG.out; omega
            case rel => exact ⟨o + 1, L, F, _, by omega, by omega, by go_num, rfl, rfl, hkL, rfl, Lib.hid (by
              obtain ⟨t, rfl⟩ : ∃ t, o = t + 1 := ⟨o - 1, by omega⟩
              rw [Nat.add_sub_cancel, mTo, if_neg, ← hm.out, Nat.add_sub_cancel]
              have := hm.out; rw [Nat.add_sub_cancel] at this; rw [this, mAll_false HT.out hnL]; simp)⟩
        · have t4 : decide ((n : Int) ≤ L) = false := decide_eq_false (by omega)
          have HA := Lib.hid (mAll_true (l := l) (a := k) (o := o) (m := L) (fun i hi => hall.out i (by omega)))
          go_wp2_with fail
          go_loopg [4] (33 - L) (fun gh ms w3 => ∃ (m f q3 : Nat), L ≤ m ∧ gh + m = 33 ∧ k + m ≤ 32 ∧ m + f = L + 33 ∧ ms = .int .i64 m ∧ w3 = w.drewN q3 ∧ Hid (mExt l k o 33 L = mExt l k o f m))
          case atStart => exact ⟨L, 33, _, Nat.le_refl _, by omega, hkL, by omega, rfl, rfl, Lib.hid rfl⟩
          case round =>
            obtain ⟨m, f, q3, hm1, hgm, hm2, hmf, rfl, rfl, hre⟩ := hrel
            have HG3 := Lib.hid hgm
            have HMF := Lib.hid hmf
            clear hgm hmf
            have s1 : IntKind.i64.wrap ((k : Int) + m) = (k : Int) + m := IntWalk.i64_in _ (by omega)
            have s2 : (0 : Int) ≤ (k : Int) + m := by omega
            have s3 : ((k : Int) + m).toNat = k + m := by omega
            have s4 : IntKind.i64.wrap ((k : Int) + m - o) = (k : Int) + m - o := IntWalk.i64_in _ (by omega)
            have s5 : (0 : Int) ≤ (k : Int) + m - o := by omega
            have s6 : ((k : Int) + m - o).toNat = k + m - o := by omega
            by_cases hin : k + m < 32
            · have s7 : (k : Int) + m < 32 := by omega
              have s7b : (k : Int) + m - o < 32 := by omega
              obtain ⟨y1, hy1⟩ : ∃ y, l[k + m]? = some y := ⟨l[k + m]'(by have := HL.out; omega), List.getElem?_eq_getElem _⟩
              obtain ⟨y2, hy2⟩ : ∃ y, l[k + m - o]? = some y := ⟨l[k + m - o]'(by have := HL.out; omega), List.getElem?_eq_getElem _⟩
              have c1 : w.cell? ⟨g, k + m, none⟩ = some (.int .u8 (y1.toNat : Int)) := HC.out _ _ hy1
              have c2 : w.cell? ⟨g, k + m - o, none⟩ = some (.int .u8 (y2.toNat : Int)) := HC.out _ _ hy2
              have HE := Lib.hid (show eqB l k o m = (y1 == y2) by simp [eqB, hy1, hy2, HL.out]; omega)
              clear hy1 hy2
              have d1 : decide ((k : Int) + m < 32) = true := decide_eq_true (by omega)
              by_cases hyy : y1 = y2
              · have b1 : ((y1.toNat : Int) == (y2.toNat : Int)) = true := by rw [hyy]; simp
                have HT := Lib.hid (show eqB l k o m = true by rw [HE.out, hyy]; simp)
                clear hyy
                go_wp2_with fail
                go_quiet (fail)
                clear s1 s3 s4 s6 d1
                go_wp2
                go_roundg (33 - (m + 1))
                case measure => have := HG3.out; omega
                case rel =>
                  obtain ⟨f', rfl⟩ : ∃ f', f = f' + 1 := ⟨f - 1, by have := HMF.out; omega⟩
                  exact ⟨m + 1, f', _, by omega, by omega, by omega, by have := HMF.out; omega, by go_num, rfl, Lib.hid (by rw [hre.out, mExt_step HT.out])⟩
              · have b1 : ((y1.toNat : Int) == (y2.toNat : Int)) = false := by
                  rw [beq_eq_false_iff_ne]; intro h; exact hyy (UInt8.toNat_inj.1 (by omega))
                have HT := Lib.hid (show eqB l k o m = false by rw [HE.out]; simp [hyy])
                clear hyy
                go_wp2_with fail
                go_quiet (fail)
                clear s1 s3 s4 s6 d1
                go_wp2
                have HX := Lib.hid (show mTo l k o = (m, o) by
                  obtain ⟨t, rfl⟩ : ∃ t, o = t + 1 := ⟨o - 1, by omega⟩
                  have hm' := hm.out
                  rw [Nat.add_sub_cancel] at hm'
                  rw [mTo, hm', if_pos HA.out, hre.out, mExt_end HT.out])
                go_roundg (k - o)
                case measure => have := HG.out; omega
                case rel => exact ⟨o + 1, m, o, _, by omega, by omega, by go_num, rfl, rfl, hm2, rfl, Lib.hid (by rw [Nat.add_sub_cancel]; exact HX.out)⟩
            · have d1 : decide ((k : Int) + m < 32) = false := decide_eq_false (by omega)
              have HT := Lib.hid (show eqB l k o m = false by simp [eqB, HL.out]; omega)
              go_wp2_with fail
              go_quiet (fail)
              clear s1 s3 s4 s6 d1
              go_wp2
              have HX := Lib.hid (show mTo l k o = (m, o) by
                obtain ⟨t, rfl⟩ : ∃ t, o = t + 1 := ⟨o - 1, by omega⟩
                have hm' := hm.out
                rw [Nat.add_sub_cancel] at hm'
                rw [mTo, hm', if_pos HA.out, hre.out, mExt_end HT.out])
              go_roundg (k - o)
              case measure => have := HG.out; omega
              case rel => exact ⟨o + 1, m, o, _, by omega, by omega, by go_num, rfl, rfl, hm2, rfl, Lib.hid (by rw [Nat.add_sub_cancel]; exact HX.out)⟩
    · have t2 : decide ((o : Int) ≤ k) = false := decide_eq_false (by omega)
      have HX := Lib.hid (show matchF l k = (L, F) by rw [← hm.out, matchF]; congr 1; omega)
      go_wp2
      try rw [Exit.noGoto_ret]
      go_ret2
      exact ⟨by rw [HX.out]; rfl, _, rfl⟩
end Go.Proofs.Ytfdmmbalfjcehaa
