/- Both parse alike. CitationCodes: true for every input. -/
import Derived.Test.YtmdhahfminiilaaDoorL50F
import Derived.Test.YtmdhahfminiilaaDoorGDc
import Derived.Test.YtmdhahfminiilaaDoorAw
set_option linter.unusedSimpArgs false
set_option linter.unusedVariables false
namespace Go.Proofs.YtmdhahfminiilaaDoor
open Go Go.Abs
theorem d0_ne {c : UInt8} (h : d0 c = true) : c ≠ 45 := by rintro rfl; cases h
theorem pre_nohy (s : Str) : (pre s).all (fun c => c != 45) = true := by
  rw [List.all_eq_true]
  intro x hx
  have h := List.all_eq_true.1 (List.all_takeWhile (p := d0) (l := s)) x hx
  simpa using d0_ne h
theorem post_head {s : Str} {c : UInt8} {r : Str} (h : post s = c :: r) : d0 c = false := by
  cases hd : d0 c with
  | false => rfl
  | true =>
    exfalso
    have h2 : (List.dropWhile d0 s).head? = some c := by rw [show List.dropWhile d0 s = c :: r from h]; rfl
    have h3 := List.head?_dropWhile_not d0 s
    rw [h2] at h3
    simp [hd] at h3
/-- A text whose first byte beyond the digits is no hyphen begins with no number. -/
theorem piece_bad {s : Str} {c : UInt8} {r : Str} (h : post s = c :: r) (hc : c ≠ 45) : ∃ p ps, pieces s = p :: ps ∧ ∀ m, okN p m = false := by
  have hd := post_head h
  have hs : s = pre s ++ c :: r := by rw [← h]; exact (pre_post s).symm
  have key : ∀ q : Str, q.all (fun c => c != 45) = true → ∃ p ps, pieces (q ++ c :: r) = p :: ps ∧ c ∈ p := by
    intro q
    induction q with
    | nil =>
      intro _
      obtain ⟨p, ps, hp⟩ := pieces_ne r
      exact ⟨c :: p, ps, pieces_ndot hc hp, by simp⟩
    | cons a q ih =>
      intro hq
      rw [List.all_cons, Bool.and_eq_true] at hq
      obtain ⟨p, ps, hp, hm⟩ := ih hq.2
      exact ⟨a :: p, ps, pieces_ndot (by simpa using hq.1) hp, List.mem_cons_of_mem _ hm⟩
  obtain ⟨p, ps, hp, hm⟩ := key (pre s) (pre_nohy s)
  rw [← hs] at hp
  refine ⟨p, ps, hp, fun m => ?_⟩
  unfold okN canon
  have : p.all d0 = false := by
    rw [List.all_eq_false]
    exact ⟨c, hm, by rw [hd]; simp⟩
  rw [this, Bool.false_and, Bool.false_and]
theorem piece_end {s : Str} (h : post s = []) : pieces s = [s] := by
  have : s = pre s := by have := pre_post s; rw [h, List.append_nil] at this; exact this.symm
  rw [this]
  exact pieces_one (pre_nohy s)
theorem piece_hy {s r : Str} (h : post s = 45 :: r) : pieces s = pre s :: pieces r := by
  have : s = pre s ++ 45 :: r := by rw [← h]; exact (pre_post s).symm
  rw [show pieces s = pieces (pre s ++ 45 :: r) by rw [← this]]
  exact pieces_app (pre_nohy s) r
theorem bad1 {p : Str} (h : okN p 1073741824 = false) : ∀ ps, parse3 (p :: ps) = (0, 0, 3)
  | [] => rfl
  | [_] => rfl
  | [q, []] => rfl
  | [q, [_]] => rfl
  | [q, [a, b]] => by simp only [parse3, h, Bool.false_and]; rfl
  | [q, _ :: _ :: _ :: _] => by simp only [parse3]
  | _ :: _ :: _ :: _ => by simp only [parse3]
theorem bad2 {p q : Str} (h : okN q 64 = false) : ∀ ps, parse3 (p :: q :: ps) = (0, 0, 3)
  | [] => rfl
  | [[]] => rfl
  | [[_]] => rfl
  | [[a, b]] => by simp only [parse3, h, Bool.false_and, Bool.and_false]; rfl
  | [_ :: _ :: _ :: _] => by simp only [parse3]
  | _ :: _ :: _ => by simp only [parse3]
theorem bad3 {p q : Str} : ∀ {x : Str}, x.length ≠ 2 → parse3 (p :: q :: pieces x) = (0, 0, 3) := by
  intro x hx
  cases hp : pieces x with
  | nil => rfl
  | cons a r =>
    cases r with
    | nil =>
      have hg := glue_pieces x
      rw [hp] at hg
      have : a = x := hg
      subst this
      match a, hx with
      | [], _ => rfl
      | [_], _ => rfl
      | [_, _], h => exact absurd rfl h
      | _ :: _ :: _ :: _, _ => simp only [parse3]
    | cons b r => simp only [parse3]
theorem drop_pre {s : Str} {r : Str} (h : post s = r) : s.drop (pre s).length = r := by
  have := pre_post s
  rw [h] at this
  rw [show s.drop (pre s).length = (pre s ++ r).drop (pre s).length by rw [this], List.drop_left]
theorem at_pre {s : Str} {c : UInt8} {r : Str} (h : post s = c :: r) : (pre s).length < s.length ∧ ix s (((pre s).length : Nat) : Int) = some c ∧ s.length = (pre s).length + 1 + r.length := by
  have hs : s = pre s ++ c :: r := by rw [← h]; exact (pre_post s).symm
  have hl : s.length = (pre s).length + 1 + r.length := by
    have := congrArg List.length hs
    rw [List.length_append, List.length_cons] at this; omega
  refine ⟨by omega, ?_, hl⟩
  have hlt : (pre s).length < s.length := by omega
  rw [ix_at hlt, ← List.getElem?_eq_getElem hlt, ← List.head?_drop, drop_pre h]
  rfl
theorem slc_from {s : Str} (hs : s.length ≤ 1000) {k : Nat} (hk : k ≤ s.length) : slc s (k : Int) (s.length : Int) = some (s.drop k) := by
  rw [slc_cut hk (Nat.le_refl _)]
  rw [List.take_of_length_le (by rw [List.length_drop]; omega)]
theorem rdigit_eq (c : UInt8) : rdigit_S ((c.toNat : Nat) : Int) = some (d0 c) := by
  simp only [rdigit_S, rdigit_F, d0]
  by_cases h : 48 ≤ c.toNat
  · rw [decide_eq_true (show ((c.toNat : Nat) : Int) ≥ 48 by omega), cond_true, decide_eq_true h, Bool.true_and]
    exact congrArg some (decide_eq_decide.2 (by omega))
  · rw [decide_eq_false (show ¬ ((c.toNat : Nat) : Int) ≥ 48 by omega), cond_false, decide_eq_false h, Bool.false_and]
theorem ok_pos {s : Str} {m : Nat} (h : okN s m = true) : 1 ≤ s.length := by
  cases s with
  | nil => cases h
  | cons c r => simp
theorem rParse_eq {s : Str} (h : s.length ≤ 900) : rParse_S s = some (parse3 (pieces s)) := by
  simp only [rParse_S, rParse_F]
  rw [show (1073741824 : Int) = ((1073741824 : Nat) : Int) from rfl, number_eq (by omega) (by omega) (by omega)]
  cases hok : okN (pre s) 1073741824 with
  | false =>
    rw [if_neg (by simp), Option.bind_some]
    simp only
    rw [show ((0 : Int) == 0) = true by decide, cond_true]
    cases hp : post s with
    | nil => rw [piece_end hp]; rfl
    | cons c r =>
      by_cases hc : c = 45
      · subst hc; rw [piece_hy hp, bad1 hok]
      · obtain ⟨p, ps, h1, h2⟩ := piece_bad hp hc
        rw [h1, bad1 (h2 _)]
  | true =>
    have hpos := ok_pos hok
    rw [if_pos rfl, Option.bind_some]
    simp only
    rw [show ((((pre s).length : Nat) : Int) == 0) = false by rw [beq_eq_false_iff_ne]; omega, cond_false]
    cases hp : post s with
    | nil =>
      have : pre s = s := by have := pre_post s; rw [hp, List.append_nil] at this; exact this
      rw [this, beq_self_eq_true, cond_true, piece_end hp]; rfl
    | cons c r =>
      obtain ⟨g1, g2, g3⟩ := at_pre hp
      rw [show ((((pre s).length : Nat) : Int) == (s.length : Int)) = false by rw [beq_eq_false_iff_ne]; omega, cond_false, g2, Option.bind_some]
      by_cases hc : c = 45
      · subst hc
        rw [show (((45 : UInt8).toNat : Int) != 45) = false by decide, cond_false, wrap_succ (n := s.length) (by omega) g1, slc_from (by omega) (by omega), Option.bind_some, piece_hy hp]
        have hr : s.drop ((pre s).length + 1) = r := by
          rw [← List.drop_drop, drop_pre hp]; rfl
        rw [hr, show (64 : Int) = ((64 : Nat) : Int) from rfl, number_eq (by omega) (by omega) (by omega)]
        cases hok2 : okN (pre r) 64 with
        | false =>
          rw [if_neg (by simp), Option.bind_some]
          simp only
          rw [show ((0 : Int) == 0) = true by decide, cond_true]
          cases hp2 : post r with
          | nil => rw [piece_end hp2]; rfl
          | cons c2 x =>
            by_cases hc2 : c2 = 45
            · subst hc2; rw [piece_hy hp2, bad2 hok2]
            · obtain ⟨p, ps, h1, h2⟩ := piece_bad hp2 hc2
              rw [h1, bad2 (h2 _)]
        | true =>
          have hpos2 := ok_pos hok2
          rw [if_pos rfl, Option.bind_some]
          simp only
          rw [show ((((pre r).length : Nat) : Int) == 0) = false by rw [beq_eq_false_iff_ne]; omega, cond_false, wrap_id (n := (((pre r).length : Nat) : Int) + 3) (by unfold okI; have := congrArg List.length (pre_post r); rw [List.length_append] at this; omega)]
          cases hp2 : post r with
          | nil =>
            have : pre r = r := by have := pre_post r; rw [hp2, List.append_nil] at this; exact this
            rw [this, show ((r.length : Int) != (r.length : Int) + 3) = true by rw [bne_iff_ne]; omega, cond_true, piece_end hp2]; rfl
          | cons c2 x =>
            obtain ⟨k1, k2, k3⟩ := at_pre hp2
            by_cases hx : x.length = 2
            · rw [show ((r.length : Int) != (((pre r).length : Nat) : Int) + 3) = false by rw [bne_eq_false_iff_eq]; omega, cond_false, k2, Option.bind_some]
              by_cases hc2 : c2 = 45
              · subst hc2
                match x, hx with
                | [a, b], _ =>
                  have hr1 : r.drop ((pre r).length + 1) = [a, b] := by rw [← List.drop_drop, drop_pre hp2]; rfl
                  have hr2 : r.drop ((pre r).length + 2) = [b] := by rw [← List.drop_drop, drop_pre hp2]; rfl
                  have i1 : ix r (((pre r).length + 1 : Nat) : Int) = some a := by
                    have hlt : (pre r).length + 1 < r.length := by rw [k3]; simp
                    rw [ix_at hlt, ← List.getElem?_eq_getElem hlt, ← List.head?_drop, hr1]; rfl
                  have i2 : ix r (((pre r).length + 2 : Nat) : Int) = some b := by
                    have hlt : (pre r).length + 2 < r.length := by rw [k3]; simp
                    rw [ix_at hlt, ← List.getElem?_eq_getElem hlt, ← List.head?_drop, hr2]; rfl
                  have hrl : r.length ≤ 900 := by omega
                  rw [show (((45 : UInt8).toNat : Int) != 45) = false by decide, cond_false, wrap_id (n := (((pre r).length : Nat) : Int) + 1) (by unfold okI; omega), wrap_id (n := (((pre r).length : Nat) : Int) + 2) (by unfold okI; omega), show (((pre r).length : Nat) : Int) + 1 = (((pre r).length + 1 : Nat) : Int) by omega, show (((pre r).length : Nat) : Int) + 2 = (((pre r).length + 2 : Nat) : Int) by omega, i1, i2, Option.bind_some, Option.bind_some, rdigit_eq, rdigit_eq, Option.bind_some, Option.bind_some, slc_from (by omega) (by rw [k3]; simp), hr1, Option.bind_some, piece_hy hp2]
                  obtain ⟨u1, u2, u3⟩ := num_val (by omega) hok
                  obtain ⟨v1, v2, v3⟩ := num_val (by omega) hok2
                  rw [rdigits_eq ⟨u2, u3, v2, v3⟩, Option.bind_some]
                  by_cases hab : (d0 a && d0 b) = true
                  · have h' := hab
                    rw [Bool.and_eq_true] at h'
                    have hpc : pieces [a, b] = [[a, b]] := pieces_one (by
                      have := d0_ne h'.1; have := d0_ne h'.2
                      simp [*])
                    rw [hpc, h'.1, h'.2]
                    simp only [Bool.not_true, cond_false, parse3, hok, hok2, h'.1, h'.2, Bool.and_self, if_true]
                    cases hcc : (([a, b] : Str) == chk (valS (pre s)) (valS (pre r))) with
                    | true => rfl
                    | false => rfl
                  · have hbad : parse3 (pre s :: pre r :: pieces [a, b]) = (0, 0, 3) := by
                      cases hpc : pieces [a, b] with
                      | nil => rfl
                      | cons q qs =>
                        cases qs with
                        | nil =>
                          have hg := glue_pieces [a, b]
                          rw [hpc] at hg
                          have : q = [a, b] := hg
                          subst this
                          have : (d0 a && d0 b) = false := by simpa using hab
                          simp only [parse3, Bool.and_assoc, this, Bool.and_false]; rfl
                        | cons q2 qs => simp only [parse3]
                    rw [hbad]
                    cases ha : d0 a with
                    | false => rfl
                    | true =>
                      have hb : d0 b = false := by rw [ha, Bool.true_and] at hab; simpa using hab
                      rw [hb]; rfl
              · obtain ⟨p, ps, h1, h2⟩ := piece_bad hp2 hc2
                have : (((c2.toNat : Nat) : Int) != 45) = true := by
                  rw [bne_iff_ne]; intro e; exact hc2 (by rw [← ofNat_eq (show 45 = c2.toNat by omega)]; rfl)
                rw [this, cond_true, h1, bad2 (h2 _)]
            · rw [show ((r.length : Int) != (((pre r).length : Nat) : Int) + 3) = true by rw [bne_iff_ne]; omega, cond_true]
              by_cases hc2 : c2 = 45
              · subst hc2; rw [piece_hy hp2, bad3 hx]
              · obtain ⟨p, ps, h1, h2⟩ := piece_bad hp2 hc2
                rw [h1, bad2 (h2 _)]
      · obtain ⟨p, ps, h1, h2⟩ := piece_bad hp hc
        have : (((c.toNat : Nat) : Int) != 45) = true := by
          rw [bne_iff_ne]; intro e; exact hc (by rw [← ofNat_eq (show 45 = c.toNat by omega)]; rfl)
        rw [this, cond_true, h1, bad1 (h2 _)]
/-- A code is read as what it was made of. -/
theorem parse_fmt {u v : Nat} (h : okUV u v) : pParse_S (fmtUV u v) = some ((u : Int), (v : Int), 0) := by
  obtain ⟨h1, h2, h3, h4⟩ := h
  have hu := dec_spec u h1
  have hv := dec_spec v h3
  have lu := dec_len 10 u (by omega) (by omega)
  have lv := dec_len 2 v (by omega) (by omega)
  have nohy : ∀ {s : Str}, s.all d0 = true → s.all (fun c => c != 45) = true := fun hs => by
    rw [List.all_eq_true] at hs ⊢
    intro x hx
    simpa using d0_ne (hs x hx)
  have hc := chkC_b u v
  have cd : d0 (UInt8.ofNat (48 + chkC u v / 10)) = true ∧ d0 (UInt8.ofNat (48 + chkC u v % 10)) = true := ⟨(digit_ok ⟨chkC u v / 10, by omega⟩).1, (digit_ok ⟨chkC u v % 10, by omega⟩).1⟩
  have hpc : pieces (fmtUV u v) = [Lib.decDigits u, Lib.decDigits v, chk u v] := by
    have : fmtUV u v = Lib.decDigits u ++ 45 :: (Lib.decDigits v ++ 45 :: chk u v) := by unfold fmtUV; simp
    rw [this, pieces_app (nohy (canon_all hu.1)), pieces_app (nohy (canon_all hv.1)), pieces_one (nohy (by unfold chk; rw [List.all_cons, List.all_cons, cd.1, cd.2]; rfl))]
  rw [pParse_eq (by unfold fmtUV chk; simp; omega), hpc]
  have o1 : okN (Lib.decDigits u) 1073741824 = true := by unfold okN; rw [hu.1, hu.2, Bool.true_and]; exact decide_eq_true h2
  have o2 : okN (Lib.decDigits v) 64 = true := by unfold okN; rw [hv.1, hv.2, Bool.true_and]; exact decide_eq_true h4
  show some (parse3 [Lib.decDigits u, Lib.decDigits v, [_, _]]) = _
  simp only [parse3, o1, o2, cd.1, cd.2, Bool.and_self, if_true, hu.2, hv.2]
  rw [if_pos (by exact beq_self_eq_true (chk u v))]
end Go.Proofs.YtmdhahfminiilaaDoor
namespace Go.Proofs.YtmdhahfminiilaaDoor.citationCodes
open Go Go.Abs
theorem law (unit version : Int) (code : Str) (_ : okI unit) (_ : okI version) (_ : okS code) : lCitationCodes_S unit version code = some true := by
  simp only [lCitationCodes_S, lCitationCodes_F, awake_true, Option.bind_some, Bool.not_true, cond_false]
  by_cases hl : code.length ≤ 40
  · rw [decide_eq_false (show ¬ (code.length : Int) > 40 by omega), cond_false, pParse_eq (s := code) (by omega), rParse_eq (s := code) (by omega)]
    cases hr : ranged unit version with
    | false =>
      obtain ⟨e1, e2⟩ := format_no hr
      rw [e1, e2]
      simp
    | true =>
      obtain ⟨a, b, rfl, rfl, hab⟩ := ranged_nat hr
      rw [pFormat_nat hab hr, rFormat_nat hab hr]
      simp only [Option.bind_some, parse_fmt hab]
      simp
  · rw [decide_eq_true (show (code.length : Int) > 40 by omega), cond_true]
end Go.Proofs.YtmdhahfminiilaaDoor.citationCodes
