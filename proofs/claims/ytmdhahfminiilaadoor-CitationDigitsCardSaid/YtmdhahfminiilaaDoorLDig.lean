/- CitationDigits: true for every input. -/
import Derived.Test.YtmdhahfminiilaaDoorL50W
import Derived.Test.YtmdhahfminiilaaDoorGDd
import Derived.Test.YtmdhahfminiilaaDoorAw
set_option linter.unusedSimpArgs false
set_option linter.unusedVariables false
namespace Go.Proofs.YtmdhahfminiilaaDoor.citationDigits
open Go Go.Abs
def okU8 (n : Int) : Prop := 0 ≤ n ∧ n ≤ 255
def okU32 (n : Int) : Prop := 0 ≤ n ∧ n ≤ 4294967295
theorem back8 (a : UInt8) : UInt8.ofNat ((a.toNat : Int)).toNat = a := ofNat_eq (by omega)
theorem law (unit version at_ by_ : Int) (hu : okU32 unit) (hv : okU8 version) (ha : okU8 at_) (hb : okU8 by_) : lCitationDigits_S unit version at_ by_ = some true := by
  obtain ⟨U, rfl⟩ : ∃ n : Nat, unit = n := ⟨unit.toNat, by have := hu.1; omega⟩
  obtain ⟨W, rfl⟩ : ∃ n : Nat, version = n := ⟨version.toNat, by have := hv.1; omega⟩
  obtain ⟨A, rfl⟩ : ∃ n : Nat, at_ = n := ⟨at_.toNat, by have := ha.1; omega⟩
  obtain ⟨B, rfl⟩ : ∃ n : Nat, by_ = n := ⟨by_.toNat, by have := hb.1; omega⟩
  unfold okU32 at hu
  unfold okU8 at hv ha hb
  have e1 : IntKind.i64.wrap (1 + Int.tmod (IntKind.i64.wrap (U : Int)) 1073741824) = ((1 + U % 1073741824 : Nat) : Int) := by
    rw [wrap_id (n := (U : Int)) (by unfold okI; omega), show (1073741824 : Int) = ((1073741824 : Nat) : Int) from rfl, tmod_nat, wrap_id (by unfold okI; omega)]; omega
  have e2 : IntKind.i64.wrap (1 + Int.tmod (IntKind.i64.wrap (W : Int)) 64) = ((1 + W % 64 : Nat) : Int) := by
    rw [wrap_id (n := (W : Int)) (by unfold okI; omega), show (64 : Int) = ((64 : Nat) : Int) from rfl, tmod_nat, wrap_id (by unfold okI; omega)]; omega
  have h : okUV (1 + U % 1073741824) (1 + W % 64) := ⟨by omega, by omega, by omega, by omega⟩
  generalize 1 + U % 1073741824 = u at e1 h
  generalize 1 + W % 64 = v at e2 h
  have hr : ranged (u : Int) (v : Int) = true := by
    obtain ⟨h1, h2, h3, h4⟩ := h
    simp only [ranged, Bool.and_eq_true, decide_eq_true_eq]; omega
  obtain ⟨hl6, hl16⟩ := fmt_len h
  have e3 : Int.tmod (IntKind.i64.wrap (A : Int)) ((fmtUV u v).length : Int) = ((A % (fmtUV u v).length : Nat) : Int) := by
    rw [wrap_id (n := (A : Int)) (by unfold okI; omega), tmod_nat]
  have hi : A % (fmtUV u v).length < (fmtUV u v).length := Nat.mod_lt _ (by omega)
  generalize A % (fmtUV u v).length = i at e3 hi
  simp only [lCitationDigits_S, lCitationDigits_F, awake_true, Option.bind_some, Bool.not_true, cond_false, e1, e2, pFormat_nat h hr, bne_self_eq_false, decide_eq_false (show ¬ ((fmtUV u v).length : Int) < 6 by omega),
    decide_eq_false (show ¬ ((fmtUV u v).length : Int) = 0 by omega), e3, ix_at hi]
  by_cases hd : (fmtUV u v)[i] = 45
  · have : (((fmtUV u v)[i].toNat : Int) == 45) = true := by rw [hd]; rfl
    rw [this]; rfl
  · have hd1 : (((fmtUV u v)[i].toNat : Int) == 45) = false := by
      rw [beq_eq_false_iff_ne]; intro e
      exact hd (by rw [← ofNat_eq (show 45 = (fmtUV u v)[i].toNat by omega)]; rfl)
    have hda := fmt_dig h (List.getElem_mem hi) hd
    obtain ⟨m, hm, h0, h255, hd0, hne⟩ := bent_digit hda (b := B) (by omega)
    have hbad := bent_bad h hi hd0 hne hd
    simp only [hd1, cond_false, hm, decide_eq_true (show 0 ≤ m ∧ m ≤ 255 from ⟨h0, h255⟩), cond_true, Int.toNat_natCast, pParse_eq (s := (fmtUV u v).set i (UInt8.ofNat m.toNat)) (by rw [List.length_set]; omega), Option.bind_some]
    generalize parse3 (pieces ((fmtUV u v).set i (UInt8.ofNat m.toNat))) = y at hbad
    have hw : IntKind.i64.wrap ((i : Int) + 1) = ((i + 1 : Nat) : Int) := by rw [wrap_id (by unfold okI; omega)]; omega
    have key : (bif decide (((i + 1 : Nat) : Int) ≥ ((fmtUV u v).length : Int)) then some true else
        (Option.bind (ix (fmtUV u v) ((i + 1 : Nat) : Int)) fun b19 => bif ((b19.toNat : Int) == 45) then some true else
          (Option.bind (ix (fmtUV u v) ((i + 1 : Nat) : Int)) fun b24 => bif (((fmtUV u v)[i].toNat : Int) == (b24.toNat : Int)) then some true else
            (Option.bind (ix (fmtUV u v) ((i + 1 : Nat) : Int)) fun x27 => bif decide (0 ≤ (x27.toNat : Int) ∧ (x27.toNat : Int) ≤ 255) then
              Option.bind (ix ((fmtUV u v).set i (UInt8.ofNat (x27.toNat : Int).toNat)) ((i + 1 : Nat) : Int)) fun x32 => bif decide (0 ≤ ((fmtUV u v)[i].toNat : Int) ∧ ((fmtUV u v)[i].toNat : Int) ≤ 255) then
                Option.bind (pParse_S (((fmtUV u v).set i (UInt8.ofNat (x27.toNat : Int).toNat)).set (i + 1) (UInt8.ofNat ((fmtUV u v)[i].toNat : Int).toNat))) fun y35 => bif (y35.2.2 == 3) then some true else some (y35.2.2 == 14)
              else none else none)))) = some true := by
      by_cases hlast : i + 1 < (fmtUV u v).length
      · rw [decide_eq_false (show ¬ ((i + 1 : Nat) : Int) ≥ ((fmtUV u v).length : Int) by omega)]
        simp only [cond_false, ix_at hlast, Option.bind_some]
        by_cases hd2 : (fmtUV u v)[i + 1] = 45
        · have : (((fmtUV u v)[i + 1].toNat : Int) == 45) = true := by rw [hd2]; rfl
          rw [this]; rfl
        · have hd3 : (((fmtUV u v)[i + 1].toNat : Int) == 45) = false := by
            rw [beq_eq_false_iff_ne]; intro e
            exact hd2 (by rw [← ofNat_eq (show 45 = (fmtUV u v)[i + 1].toNat by omega)]; rfl)
          by_cases hsame : (fmtUV u v)[i] = (fmtUV u v)[i + 1]
          · have : (((fmtUV u v)[i].toNat : Int) == ((fmtUV u v)[i + 1].toNat : Int)) = true := by rw [hsame]; exact beq_self_eq_true _
            rw [hd3, this]; rfl
          · have hdiff : (((fmtUV u v)[i].toNat : Int) == ((fmtUV u v)[i + 1].toNat : Int)) = false := by
              rw [beq_eq_false_iff_ne]; intro e
              exact hsame (UInt8.toNat_inj.1 (by omega))
            have b1 := (fmtUV u v)[i].toNat_lt
            have b2 := (fmtUV u v)[i + 1].toNat_lt
            have ht := turned_bad h hlast hd hd2 hsame
            have hx : ix ((fmtUV u v).set i (fmtUV u v)[i + 1]) ((i + 1 : Nat) : Int) = some (fmtUV u v)[i + 1] := by
              rw [ix_at (show i + 1 < ((fmtUV u v).set i (fmtUV u v)[i + 1]).length by rw [List.length_set]; exact hlast), List.getElem_set_ne (by omega)]
            simp only [hd3, hdiff, cond_false, back8, decide_eq_true (show 0 ≤ ((fmtUV u v)[i + 1].toNat : Int) ∧ ((fmtUV u v)[i + 1].toNat : Int) ≤ 255 by omega), decide_eq_true (show 0 ≤ ((fmtUV u v)[i].toNat : Int) ∧ ((fmtUV u v)[i].toNat : Int) ≤ 255 by omega), cond_true, hx, Option.bind_some,
              pParse_eq (s := ((fmtUV u v).set i (fmtUV u v)[i + 1]).set (i + 1) (fmtUV u v)[i]) (by rw [List.length_set, List.length_set]; omega)]
            rcases ht with ht | ht <;> rw [ht] <;> rfl
      · rw [decide_eq_true (show ((i + 1 : Nat) : Int) ≥ ((fmtUV u v).length : Int) by omega)]; rfl
    rcases hbad with hbad | hbad
    · rw [hbad]
      simp only [bne_self_eq_false, cond_false, hw, Int.toNat_natCast]
      exact key
    · rw [hbad]
      simp only [show ((14 : Int) != 3) = true from rfl, cond_true, bne_self_eq_false, cond_false, hw, Int.toNat_natCast]
      exact key
end Go.Proofs.YtmdhahfminiilaaDoor.citationDigits
