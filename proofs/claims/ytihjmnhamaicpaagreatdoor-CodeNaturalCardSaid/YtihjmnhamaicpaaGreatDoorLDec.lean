/- The natural order of two names that end in numbers. -/
import Derived.Test.YtihjmnhamaicpaaGreatDoorLNat3
set_option linter.unusedVariables false
set_option linter.unusedSimpArgs false
namespace Go.Proofs.YtihjmnhamaicpaaGreatDoor
open Go Go.Abs
def valS : Str → Nat
  | [] => 0
  | c :: r => (c.toNat - 48) * 10 ^ r.length + valS r
theorem valS_lt : ∀ {s : Str}, (∀ c ∈ s, d0 c = true) → valS s < 10 ^ s.length
  | [], _ => by simp [valS]
  | c :: r, h => by
    have hc := d0_iff.1 (h c (by simp))
    have ih := valS_lt (s := r) (fun x hx => h x (List.mem_cons_of_mem _ hx))
    rw [valS, List.length_cons, Nat.pow_succ]
    have : (c.toNat - 48) * 10 ^ r.length ≤ 9 * 10 ^ r.length := Nat.mul_le_mul_right _ (by omega)
    omega
theorem natC_lt {a b : Nat} (h : a < b) : natC a b = -1 := by unfold natC; rw [if_pos h]
theorem natC_gt {a b : Nat} (h : b < a) : natC a b = 1 := by unfold natC; rw [if_neg (by omega), if_pos h]
theorem natC_eq {a b : Nat} (h : a = b) : natC a b = 0 := by unfold natC; rw [if_neg (by omega), if_neg (by omega)]
theorem bytes_val : ∀ {s t : Str}, s.length = t.length → (∀ c ∈ s, d0 c = true) → (∀ c ∈ t, d0 c = true) → byteC s t = natC (valS s) (valS t)
  | [], [], _, _, _ => by decide
  | [], _ :: _, h, _, _ => by simp at h
  | _ :: _, [], h, _, _ => by simp at h
  | c :: r, d :: u, h, hs, ht => by
    have hl : r.length = u.length := by simpa using h
    have hc := d0_iff.1 (hs c (by simp))
    have hd := d0_iff.1 (ht d (by simp))
    have v1 := valS_lt (s := r) (fun x hx => hs x (List.mem_cons_of_mem _ hx))
    have v2 := valS_lt (s := u) (fun x hx => ht x (List.mem_cons_of_mem _ hx))
    have ih := bytes_val hl (fun x hx => hs x (List.mem_cons_of_mem _ hx)) (fun x hx => ht x (List.mem_cons_of_mem _ hx))
    show (if natC c.toNat d.toNat = 0 then byteC r u else natC c.toNat d.toNat) = _
    rw [valS, valS, ← hl]
    rw [← hl] at v2
    rcases Nat.lt_trichotomy c.toNat d.toNat with h1 | h1 | h1
    · rw [natC_lt h1, if_neg (by omega)]
      have : (c.toNat - 48 + 1) * 10 ^ r.length ≤ (d.toNat - 48) * 10 ^ r.length := Nat.mul_le_mul_right _ (by omega)
      rw [Nat.add_mul, Nat.one_mul] at this
      rw [natC_lt (by omega)]
    · rw [natC_eq h1, if_pos rfl, ih, h1]
      rcases Nat.lt_trichotomy (valS r) (valS u) with h2 | h2 | h2
      · rw [natC_lt h2, natC_lt (by omega)]
      · rw [natC_eq h2, natC_eq (by omega)]
      · rw [natC_gt h2, natC_gt (by omega)]
    · rw [natC_gt h1, if_neg (by omega)]
      have : (d.toNat - 48 + 1) * 10 ^ r.length ≤ (c.toNat - 48) * 10 ^ r.length := Nat.mul_le_mul_right _ (by omega)
      rw [Nat.add_mul, Nat.one_mul] at this
      rw [natC_gt (by omega)]
theorem trim_val : ∀ {s : Str}, (∀ c ∈ s, d0 c = true) → valS (Lib.trimLeftB s 48) = valS s ∧ (∀ c ∈ Lib.trimLeftB s 48, d0 c = true) ∧ (Lib.trimLeftB s 48 ≠ [] → 10 ^ ((Lib.trimLeftB s 48).length - 1) ≤ valS s)
  | [], _ => ⟨rfl, fun c h => by simp [Lib.trimLeftB] at h, fun h => by simp [Lib.trimLeftB] at h⟩
  | c :: r, h => by
    obtain ⟨i1, i2, i3⟩ := trim_val (s := r) (fun x hx => h x (List.mem_cons_of_mem _ hx))
    by_cases hc : c = 48
    · subst hc
      have e : Lib.trimLeftB (48 :: r) 48 = Lib.trimLeftB r 48 := by simp [Lib.trimLeftB]
      have ev : valS (48 :: r) = valS r := by rw [valS]; simp
      rw [e, ev]; exact ⟨i1, i2, i3⟩
    · have e : Lib.trimLeftB (c :: r) 48 = c :: r := by simp [Lib.trimLeftB, hc]
      have hd := d0_iff.1 (h c (by simp))
      have hne : c.toNat ≠ 48 := fun h => hc (UInt8.toNat_inj.1 h)
      rw [e]
      refine ⟨rfl, h, fun _ => ?_⟩
      rw [valS, List.length_cons, Nat.add_sub_cancel]
      have : 1 * 10 ^ r.length ≤ (c.toNat - 48) * 10 ^ r.length := Nat.mul_le_mul_right _ (by omega)
      omega
theorem part_val {s t : Str} (hs : ∀ c ∈ s, d0 c = true) (ht : ∀ c ∈ t, d0 c = true) (ns : s ≠ []) (nt : t ≠ []) : partC s t = natC (valS s) (valS t) := by
  have d1 : digP s = true := by cases s with | nil => exact absurd rfl ns | cons c r => exact hs c (by simp)
  have d2 : digP t = true := by cases t with | nil => exact absurd rfl nt | cons c r => exact ht c (by simp)
  unfold partC kindP lenP bytesP
  simp only [d1, d2, if_true]
  rw [natC_eq rfl, if_pos rfl]
  obtain ⟨a1, a2, a3⟩ := trim_val hs
  obtain ⟨b1, b2, b3⟩ := trim_val ht
  have va := valS_lt a2
  have vb := valS_lt b2
  rw [a1] at va
  rw [b1] at vb
  have short : ∀ {u v : Str} {m n : Nat}, u.length < v.length → m < 10 ^ u.length → (v ≠ [] → 10 ^ (v.length - 1) ≤ n) → m < n := fun {u v m n} h1 h2 h3 => by
    have := h3 (by rintro rfl; simp at h1)
    have : 10 ^ u.length ≤ 10 ^ (v.length - 1) := Nat.pow_le_pow_right (by omega) (by omega)
    omega
  rcases Nat.lt_trichotomy (Lib.trimLeftB s 48).length (Lib.trimLeftB t 48).length with h | h | h
  · rw [natC_lt h, if_neg (by omega), natC_lt (short h va b3)]
  · rw [natC_eq h, if_pos rfl, bytes_val h a2 b2, a1, b1]
  · rw [natC_gt h, if_neg (by omega), natC_gt (short h vb a3)]
theorem runD_all : ∀ {s : Str}, (∀ c ∈ s, d0 c = true) → runD s = s.length
  | [], _ => rfl
  | c :: r, h => by
    rw [runD, if_pos (h c (by simp)), runD_all (fun x hx => h x (List.mem_cons_of_mem _ hx))]; rfl
theorem parts_name {s : Str} (hs : ∀ c ∈ s, d0 c = true) (ns : s ≠ []) : partsF ([78, 32] ++ s) = [[78], [32], s] := by
  cases s with
  | nil => exact absurd rfl ns
  | cons c r =>
    have e1 : runL (78 :: 32 :: c :: r) = 1 := rfl
    have e2 : runL (32 :: c :: r) = 1 := rfl
    have e3 : runL (c :: r) = (c :: r).length := by
      show (if d0 c = true then runD r + 1 else 1) = _
      rw [if_pos (hs c (by simp)), runD_all (fun x hx => hs x (List.mem_cons_of_mem _ hx))]; rfl
    show partsN (r.length + 1 + 1 + 1) (78 :: 32 :: c :: r) = _
    rw [partsN, e1]
    show [78] :: partsN (r.length + 1 + 1) (32 :: c :: r) = _
    rw [partsN, e2]
    show [78] :: [32] :: partsN (r.length + 1) (c :: r) = _
    rw [partsN, e3, List.take_length, List.drop_length]
    cases r.length <;> rfl
theorem name_val {s t : Str} (hs : ∀ c ∈ s, d0 c = true) (ht : ∀ c ∈ t, d0 c = true) (ns : s ≠ []) (nt : t ≠ []) (hq : valS s = valS t → s = t) : decide (natV ([78, 32] ++ s) ([78, 32] ++ t) < 0) = decide (valS s < valS t) := by
  unfold natV
  rw [parts_name hs ns, parts_name ht nt]
  have e : lexL partC [[78], [32], s] [[78], [32], t] = natC (valS s) (valS t) := by
    have r1 : partC [78] [78] = 0 := partC_tot.refl _
    have r2 : partC [32] [32] = 0 := partC_tot.refl _
    rw [lexL, if_pos r1, lexL, if_pos r2, lexL, part_val hs ht ns nt]
    split
    · rename_i h; rw [h]; rfl
    · rfl
  rw [e]
  rcases Nat.lt_trichotomy (valS s) (valS t) with h | h | h
  · rw [natC_lt h, if_neg (by omega), decide_eq_true (show (-1 : Int) < 0 by omega), decide_eq_true h]
  · rw [natC_eq h, if_pos rfl, hq h, byteC_tot.refl]; simp
  · rw [natC_gt h, if_neg (by omega), decide_eq_false (show ¬ (1 : Int) < 0 by omega), decide_eq_false (by omega)]
end Go.Proofs.YtihjmnhamaicpaaGreatDoor
