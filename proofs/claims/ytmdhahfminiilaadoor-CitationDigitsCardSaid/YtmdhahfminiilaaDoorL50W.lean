/- A code whose digits are bent or turned is refused. -/
import Derived.Test.YtmdhahfminiilaaDoorL50G
set_option linter.unusedSimpArgs false
set_option linter.unusedVariables false
namespace Go.Proofs.YtmdhahfminiilaaDoor
open Go Go.Abs
/-- The number with the digits of a code. -/
def numD (s : Str) : Nat := valS (s.filter fun c => c != 45)
theorem filt_dig {s : Str} (h : s.all d0 = true) : (s.filter fun c => c != 45) = s := by
  rw [List.filter_eq_self]
  intro x hx
  simpa using d0_ne (List.all_eq_true.1 h x hx)
theorem chk_dig (u v : Nat) : (chk u v).all d0 = true := by
  have hc := chkC_b u v
  unfold chk
  rw [List.all_cons, List.all_cons, (digit_ok ⟨chkC u v / 10, by omega⟩).1, (digit_ok ⟨chkC u v % 10, by omega⟩).1]; rfl
theorem chk_val (u v : Nat) : valS (chk u v) = chkC u v := by
  have hc := chkC_b u v
  have h1 := (digit_ok ⟨chkC u v / 10, by omega⟩).2
  have h2 := (digit_ok ⟨chkC u v % 10, by omega⟩).2
  simp only at h1 h2
  unfold chk valS
  rw [valA_cons, valA_cons, valA_nil, h1, h2]
  omega
theorem numD_fmt {u v : Nat} (h : okUV u v) : numD (fmtUV u v) % 97 = 1 := by
  have h' := h
  obtain ⟨h1, h2, h3, h4⟩ := h'
  have e : (fmtUV u v).filter (fun c => c != 45) = (Lib.decDigits u ++ Lib.decDigits v) ++ chk u v := by
    unfold fmtUV
    simp only [List.filter_append, filt_dig (canon_all (dec_spec u h1).1), filt_dig (canon_all (dec_spec v h3).1), filt_dig (chk_dig u v)]
    simp
  have hb := num_both h
  have hk := chk_val u v
  unfold numD
  rw [e]
  unfold valS at hb hk ⊢
  rw [valA_app, hb, valA_pow, hk, chk_len]
  unfold chkC
  omega
/-- What is read is made of what it was read as. -/
theorem parse_back {w : Str} (h : (parse3 (pieces w)).2.2 = 0) : ∃ u v, okUV u v ∧ w = fmtUV u v := by
  have hg := glue_pieces w
  generalize pieces w = ps at h hg
  match ps, h, hg with
  | [p, q, [a, b]], h, hg =>
    simp only [parse3] at h
    by_cases h1 : (okN p 1073741824 && okN q 64 && d0 a && d0 b) = true
    · rw [if_pos h1] at h
      by_cases h2 : (([a, b] : Str) == chk (valS p) (valS q)) = true
      · simp only [Bool.and_eq_true, okN, decide_eq_true_eq] at h1
        obtain ⟨⟨⟨⟨hp, hp2⟩, hq, hq2⟩, _⟩, _⟩ := h1
        refine ⟨valS p, valS q, ⟨canon_pos hp, hp2, canon_pos hq, hq2⟩, ?_⟩
        unfold fmtUV
        rw [dec_canon _ p rfl hp, dec_canon _ q rfl hq, ← eq_of_beq h2, ← hg]
        simp [glue]
      · rw [if_neg h2] at h; simp at h
    · rw [if_neg h1] at h; simp at h
theorem parse_err (ps : List Str) : (parse3 ps).2.2 = 0 ∨ (parse3 ps).2.2 = 3 ∨ (parse3 ps).2.2 = 14 := by
  match ps with
  | [p, q, [a, b]] =>
    simp only [parse3]
    split
    · split
      · exact .inl rfl
      · exact .inr (.inr rfl)
    · exact .inr (.inl rfl)
  | [] => exact .inr (.inl rfl)
  | [_] => exact .inr (.inl rfl)
  | [_, _] => exact .inr (.inl rfl)
  | [_, _, []] => exact .inr (.inl rfl)
  | [_, _, [_]] => exact .inr (.inl rfl)
  | [_, _, _ :: _ :: _ :: _] => exact .inr (.inl rfl)
  | p :: q :: x :: y :: r =>
    have e : parse3 (p :: q :: x :: y :: r) = (0, 0, 3) := by simp only [parse3]
    rw [e]; exact .inr (.inl rfl)
theorem pow_cancel : ∀ (k p q : Nat), (p * 10 ^ k) % 97 = (q * 10 ^ k) % 97 → p % 97 = q % 97
  | 0, p, q, h => by simpa using h
  | k + 1, p, q, h => by
    have e : ∀ x : Nat, x * 10 ^ (k + 1) = (x * 10 ^ k) * 10 := fun x => by rw [Nat.pow_succ, Nat.mul_assoc]
    rw [e p, e q] at h
    exact pow_cancel k p q (by omega)
theorem numD_mid (X M Y : Str) (hM : M.all d0 = true) : numD (X ++ M ++ Y) = (numD X * 10 ^ M.length + valS M) * 10 ^ (Y.filter fun c => c != 45).length + numD Y := by
  unfold numD
  rw [List.filter_append, List.filter_append, filt_dig hM]
  unfold valS
  rw [valA_app, valA_app, valA_pow M, valA_pow (Y.filter fun c => c != 45)]
theorem bend_bad {X Y M M' : Str} {u v : Nat} (h : okUV u v) (hF : fmtUV u v = X ++ M ++ Y) (hM : M.all d0 = true) (hM' : M'.all d0 = true) (hl : M'.length = M.length) (hv : ∀ A, (A + valS M') % 97 ≠ (A + valS M) % 97) :
    (parse3 (pieces (X ++ M' ++ Y))).2.2 = 3 ∨ (parse3 (pieces (X ++ M' ++ Y))).2.2 = 14 := by
  rcases parse_err (pieces (X ++ M' ++ Y)) with h0 | h0
  · obtain ⟨u', v', h', hw⟩ := parse_back h0
    have e1 := numD_fmt h
    have e2 := numD_fmt h'
    rw [← hw, numD_mid X M' Y hM'] at e2
    rw [hF, numD_mid X M Y hM, ← hl] at e1
    refine absurd (pow_cancel (Y.filter fun c => c != 45).length _ _ ?_) (hv (numD X * 10 ^ M'.length))
    omega
  · exact h0
theorem set_split {s : Str} {i : Nat} (h : i < s.length) (c : UInt8) : s.set i c = s.take i ++ [c] ++ s.drop (i + 1) := by
  rw [List.set_eq_take_append_cons_drop, if_pos h]; simp
theorem at_split {s : Str} {i : Nat} (h : i < s.length) : s = s.take i ++ [s[i]] ++ s.drop (i + 1) := by
  rw [List.append_assoc, List.singleton_append, ← List.drop_eq_getElem_cons h, List.take_append_drop]
theorem fmt_dig {u v : Nat} (h : okUV u v) {c : UInt8} (hc : c ∈ fmtUV u v) (hne : c ≠ 45) : d0 c = true := by
  obtain ⟨h1, h2, h3, h4⟩ := h
  unfold fmtUV at hc
  simp only [List.mem_append, List.mem_singleton] at hc
  rcases hc with (((hc | hc) | hc) | hc) | hc
  · exact List.all_eq_true.1 (canon_all (dec_spec u h1).1) c hc
  · exact absurd hc hne
  · exact List.all_eq_true.1 (canon_all (dec_spec v h3).1) c hc
  · exact absurd hc hne
  · exact List.all_eq_true.1 (chk_dig u v) c hc
theorem bent_bad {u v : Nat} (h : okUV u v) {i : Nat} (hi : i < (fmtUV u v).length) {c : UInt8} (hc : d0 c = true) (hne : c ≠ (fmtUV u v)[i]) (hd : (fmtUV u v)[i] ≠ 45) :
    (parse3 (pieces ((fmtUV u v).set i c))).2.2 = 3 ∨ (parse3 (pieces ((fmtUV u v).set i c))).2.2 = 14 := by
  have hda := fmt_dig h (List.getElem_mem hi) hd
  have hs := at_split hi
  rw [set_split hi]
  generalize (fmtUV u v)[i] = a at hne hda hs
  refine bend_bad h hs (by rw [List.all_cons, hda]; rfl) (by rw [List.all_cons, hc]; rfl) rfl fun A => ?_
  rw [d0_iff] at hc hda
  have hcc : c.toNat ≠ a.toNat := fun e => hne (UInt8.toNat_inj.1 e)
  unfold valS
  rw [valA_cons, valA_nil, valA_cons, valA_nil]
  omega
theorem set_two : ∀ (X : Str) (x y b a : UInt8) (Y : Str), ((X ++ x :: y :: Y).set X.length b).set (X.length + 1) a = X ++ b :: a :: Y
  | [], _, _, _, _, _ => rfl
  | z :: X, x, y, b, a, Y => by
    have := set_two X x y b a Y
    simp only [List.cons_append, List.length_cons, List.set_cons_succ, this]
theorem turned_bad {u v : Nat} (h : okUV u v) {i : Nat} (hi : i + 1 < (fmtUV u v).length) (hd : (fmtUV u v)[i] ≠ 45) (hd2 : (fmtUV u v)[i + 1] ≠ 45) (hne : (fmtUV u v)[i] ≠ (fmtUV u v)[i + 1]) :
    (parse3 (pieces (((fmtUV u v).set i (fmtUV u v)[i + 1]).set (i + 1) (fmtUV u v)[i]))).2.2 = 3 ∨ (parse3 (pieces (((fmtUV u v).set i (fmtUV u v)[i + 1]).set (i + 1) (fmtUV u v)[i]))).2.2 = 14 := by
  have hi' : i < (fmtUV u v).length := by omega
  have hda := fmt_dig h (List.getElem_mem hi') hd
  have hdb := fmt_dig h (List.getElem_mem hi) hd2
  have hs : fmtUV u v = (fmtUV u v).take i ++ [(fmtUV u v)[i], (fmtUV u v)[i + 1]] ++ (fmtUV u v).drop (i + 2) := by
    have h1 := List.drop_eq_getElem_cons hi'
    have h2 := List.drop_eq_getElem_cons hi
    rw [List.append_assoc, List.cons_append, List.singleton_append, ← h2, ← h1, List.take_append_drop]
  have hl : ((fmtUV u v).take i).length = i := by rw [List.length_take]; omega
  have ht : ((fmtUV u v).set i (fmtUV u v)[i + 1]).set (i + 1) (fmtUV u v)[i] = (fmtUV u v).take i ++ [(fmtUV u v)[i + 1], (fmtUV u v)[i]] ++ (fmtUV u v).drop (i + 2) := by
    generalize (fmtUV u v)[i] = a at hs
    generalize (fmtUV u v)[i + 1] = b at hs
    have := set_two ((fmtUV u v).take i) a b b a ((fmtUV u v).drop (i + 2))
    rw [hl] at this
    have e : (fmtUV u v).take i ++ a :: b :: (fmtUV u v).drop (i + 2) = fmtUV u v := by
      refine Eq.trans ?_ hs.symm
      simp
    rw [e] at this
    rw [this]
    simp
  rw [ht]
  generalize (fmtUV u v)[i] = a at hne hda hs
  generalize (fmtUV u v)[i + 1] = b at hne hdb hs
  refine bend_bad h hs (by rw [List.all_cons, List.all_cons, hda, hdb]; rfl) (by rw [List.all_cons, List.all_cons, hda, hdb]; rfl) rfl fun A => ?_
  rw [d0_iff] at hda hdb
  have hcc : a.toNat ≠ b.toNat := fun e => hne (UInt8.toNat_inj.1 e)
  unfold valS
  rw [valA_cons, valA_cons, valA_nil, valA_cons, valA_cons, valA_nil]
  omega
theorem fmt_len {u v : Nat} (h : okUV u v) : 6 ≤ (fmtUV u v).length ∧ (fmtUV u v).length ≤ 16 := by
  obtain ⟨h1, h2, h3, h4⟩ := h
  have lu := dec_len 10 u (by omega) (by omega)
  have lv := dec_len 2 v (by omega) (by omega)
  have pos : ∀ w : Nat, 1 ≤ w → 1 ≤ (Lib.decDigits w).length := fun w hw => by
    have := (dec_spec w hw).1
    cases hd : Lib.decDigits w with
    | nil => rw [hd] at this; simp [canon] at this
    | cons c r => simp
  have pu := pos u h1
  have pv := pos v h3
  unfold fmtUV
  simp only [List.length_append, List.length_singleton, chk_len]
  omega
theorem u8n (n : Int) : IntKind.u8.wrap n = n % 256 := rfl
theorem bent_digit {a : UInt8} (ha : d0 a = true) {b : Nat} (hb : b ≤ 255) :
    ∃ m : Int, IntKind.u8.wrap (48 + Int.tmod (IntKind.u8.wrap (IntKind.u8.wrap (IntKind.u8.wrap ((a.toNat : Int) - 48) + 1) + Int.tmod (b : Int) 9)) 10) = m ∧ 0 ≤ m ∧ m ≤ 255 ∧ d0 (UInt8.ofNat m.toNat) = true ∧ UInt8.ofNat m.toNat ≠ a := by
  rw [d0_iff] at ha
  have e1 : IntKind.u8.wrap ((a.toNat : Int) - 48) = ((a.toNat - 48 : Nat) : Int) := by rw [u8n]; omega
  have e2 : Int.tmod (b : Int) 9 = ((b % 9 : Nat) : Int) := rfl
  have e3 : IntKind.u8.wrap (((a.toNat - 48 : Nat) : Int) + 1) = ((a.toNat - 48 + 1 : Nat) : Int) := by rw [u8n]; omega
  have e4 : IntKind.u8.wrap (((a.toNat - 48 + 1 : Nat) : Int) + ((b % 9 : Nat) : Int)) = ((a.toNat - 48 + 1 + b % 9 : Nat) : Int) := by rw [u8n]; omega
  have e5 : Int.tmod ((a.toNat - 48 + 1 + b % 9 : Nat) : Int) 10 = (((a.toNat - 48 + 1 + b % 9) % 10 : Nat) : Int) := rfl
  have e6 : IntKind.u8.wrap (48 + (((a.toNat - 48 + 1 + b % 9) % 10 : Nat) : Int)) = ((48 + (a.toNat - 48 + 1 + b % 9) % 10 : Nat) : Int) := by rw [u8n]; omega
  rw [e1, e2, e3, e4, e5, e6]
  have hn : (UInt8.ofNat (48 + (a.toNat - 48 + 1 + b % 9) % 10)).toNat = 48 + (a.toNat - 48 + 1 + b % 9) % 10 := by
    simp; omega
  refine ⟨_, rfl, by omega, by omega, ?_, fun hc => ?_⟩
  · rw [Int.toNat_natCast, d0_iff, hn]; omega
  · rw [Int.toNat_natCast] at hc
    have := congrArg UInt8.toNat hc
    rw [hn] at this
    omega
end Go.Proofs.YtmdhahfminiilaaDoor
