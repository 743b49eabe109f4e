/- The name on a day: the binary search finds what the linear one finds. -/
import Derived.Test.YtgpojnenbmlcbaaDoorLCheck2
namespace Go.Proofs.YtgpojnenbmlcbaaDoor
open Go Go.Abs

def cmpV (x : Nam) (day : Int) : Int := bif onSpan x.In day then 0 else bif decide (x.In.From < day) then -1 else bif decide (x.In.From > day) then 1 else 0
theorem cmpCompare_eq (x y : Int) : cmpCompare_S x y = some (bif decide (x < y) then -1 else bif decide (x > y) then 1 else 0) := by
  simp only [cmpCompare_S, cmpCompare_F, cmpIsNaN_S, cmpIsNaN_F, Option.bind_some, bne_self_eq_false, cond_false]
  cases decide (x < y) <;> cases decide (x > y) <;> rfl
theorem pon1_eq (x : Nam) (day : Int) : pon_1_S x day = some (cmpV x day) := by
  simp only [pon_1_S, pon_1_F, pin_eq, Option.bind_some, cmpCompare_eq, cmpV]
  cases onSpan x.In day <;> rfl
theorem cmpV_neg {x : Nam} {day : Int} (h : x.In.From < x.In.Until) : cmpV x day < 0 ↔ x.In.Until ≤ day := by
  unfold cmpV onSpan
  by_cases h1 : x.In.From ≤ day <;> by_cases h2 : day < x.In.Until <;> by_cases h3 : x.In.From < day <;> by_cases h4 : x.In.From > day <;> simp [h1, h2, h3, h4] <;> omega
theorem cmpV_zero {x : Nam} {day : Int} (h : x.In.From < x.In.Until) : (cmpV x day == 0) = onSpan x.In day := by
  unfold cmpV onSpan
  by_cases h1 : x.In.From ≤ day <;> by_cases h2 : day < x.In.Until <;> by_cases h3 : x.In.From < day <;> by_cases h4 : x.In.From > day <;> simp [h1, h2, h3, h4] <;> omega
theorem mid_eq {i j : Nat} (hi : i ≤ 100) (hj : j ≤ 100) : IntKind.i64.wrap (Int.fdiv (IntKind.u64.wrap (IntKind.i64.wrap ((i : Int) + (j : Int)))) 2) = (((i + j) / 2 : Nat) : Int) := by
  have e1 : IntKind.i64.wrap ((i : Int) + (j : Int)) = (i : Int) + j := wrap_id (by unfold okI; omega)
  have e2 : IntKind.u64.wrap ((i : Int) + (j : Int)) = (i : Int) + j := by
    show (if (false && decide (((i : Int) + j) % (2 ^ 64 : Int) ≥ (2 ^ 63 : Int))) = true then ((i : Int) + j) % (2 ^ 64 : Int) - (2 ^ 64 : Int) else ((i : Int) + j) % (2 ^ 64 : Int)) = (i : Int) + j
    simp only [Bool.false_and, Bool.false_eq_true, if_false]
    omega
  have e3 : Int.fdiv ((i : Int) + (j : Int)) 2 = (((i + j) / 2 : Nat) : Int) := by
    rw [Int.fdiv_eq_ediv_of_nonneg _ (by decide)]; omega
  rw [e1, e2, e3]
  exact wrap_id (by unfold okI; omega)
/-- Names that lie in order and apart. -/
def Sorted (n : List Nam) : Prop := (∀ x ∈ n, x.In.From < x.In.Until) ∧ ∀ (i j : Nat) (hj : j < n.length) (hij : i < j), (n[i]'(by omega)).In.Until ≤ n[j].In.From
theorem bs_loop {n : List Nam} {day : Int} {cmp : Nam → Int → Option Int} (hc : ∀ x d, cmp x d = some (cmpV x d)) (hs : Sorted n) (hl : n.length ≤ 100) : ∀ (fu i j : Nat), i ≤ j → j ≤ n.length →
    (∀ k (hk : k < n.length), k < i → n[k].In.Until ≤ day) → (∀ k (hk : k < n.length), j ≤ k → ¬ n[k].In.Until ≤ day) → j - i < fu →
    ∃ m, m ≤ n.length ∧ (∀ k (hk : k < n.length), k < m → n[k].In.Until ≤ day) ∧ (∀ k (hk : k < n.length), m ≤ k → ¬ n[k].In.Until ≤ day) ∧
      slBSF_L1 n day cmp fu (i : Int) (j : Int) = some ((m : Int), match n[m]? with | some x => onSpan x.In day | none => false)
  | 0, i, j, _, _, _, _, h => by omega
  | fu + 1, i, j, hij, hj, h1, h2, hf => by
    by_cases hlt : i < j
    · have e0 : decide ((i : Int) < (j : Int)) = true := decide_eq_true (by omega)
      have hm : (i + j) / 2 < n.length := by omega
      have hx := hs.1 _ (List.getElem_mem hm)
      simp only [slBSF_L1, e0, cond_true, mid_eq (show i ≤ 100 by omega) (show j ≤ 100 by omega), ix_at hm, Option.bind_some, hc]
      by_cases hn : n[(i + j) / 2].In.Until ≤ day
      · have e1 : decide (cmpV n[(i + j) / 2] day < 0) = true := decide_eq_true ((cmpV_neg hx).2 hn)
        simp only [e1, cond_true]
        have e2 : IntKind.i64.wrap ((((i + j) / 2 : Nat) : Int) + 1) = (((i + j) / 2 + 1 : Nat) : Int) := wrap_succ (n := n.length) (by omega) hm
        rw [e2]
        refine bs_loop hc hs hl fu ((i + j) / 2 + 1) j (by omega) hj (fun k hk hkm => ?_) h2 (by omega)
        by_cases hkk : k = (i + j) / 2
        · subst hkk; exact hn
        · have h5 := hs.2 k ((i + j) / 2) hm (by omega)
          omega
      · have e1 : decide (cmpV n[(i + j) / 2] day < 0) = false := decide_eq_false fun hc => hn ((cmpV_neg hx).1 hc)
        simp only [e1, cond_false]
        refine bs_loop hc hs hl fu i ((i + j) / 2) (by omega) (by omega) h1 (fun k hk hkm => ?_) (by omega)
        by_cases hkk : k = (i + j) / 2
        · subst hkk; exact hn
        · have h5 := hs.2 ((i + j) / 2) k hk (by omega)
          have h6 := hs.1 _ (List.getElem_mem hk)
          omega
    · have hij' : i = j := by omega
      subst hij'
      have e0 : decide ((i : Int) < (i : Int)) = false := decide_eq_false (by omega)
      refine ⟨i, hj, h1, h2, ?_⟩
      simp only [slBSF_L1, e0, cond_false, List.length_map]
      by_cases hi : i < n.length
      · have e1 : decide ((i : Int) < (n.length : Int)) = true := decide_eq_true (by omega)
        simp only [e1, cond_true, ix_at hi, Option.bind_some, hc, List.getElem?_eq_getElem hi, cmpV_zero (hs.1 _ (List.getElem_mem hi))]
      · have e1 : decide ((i : Int) < (n.length : Int)) = false := decide_eq_false (by omega)
        have e2 : n[i]? = none := List.getElem?_eq_none (by omega)
        simp only [e1, cond_false, e2]
def onF (a : Aut) (day : Int) : Option Nam := a.Names.find? fun x => onSpan x.In day
theorem pon_eq {a : Aut} {day : Int} (hs : Sorted a.Names) (hl : a.Names.length ≤ 17) : pon_S a day = some (match onF a day with | some x => (x.Text, true) | none => ([], false)) := by
  obtain ⟨m, hm, h1, h2, hb⟩ := bs_loop (n := a.Names) (day := day) (cmp := fun z0 z1 => pon_1_S z0 z1) pon1_eq hs (by omega) 64 0 a.Names.length (by omega) (by omega) (fun k _ hk => by omega) (fun k hk hk' => by omega) (by omega)
  simp only [pon_S, pon_F, slBSF_S, slBSF_F, List.length_map]
  rw [show (0 : Int) = ((0 : Nat) : Int) from rfl, hb]
  simp only [Option.bind_some]
  unfold onF
  by_cases hml : m < a.Names.length
  · rw [List.getElem?_eq_getElem hml]
    simp only []
    cases ho : onSpan a.Names[m].In day with
    | true =>
      have hq : a.Names.find? (fun x => onSpan x.In day) = some a.Names[m] := by
        rw [List.find?_eq_some_iff_getElem]
        refine ⟨ho, m, hml, rfl, fun j hj => ?_⟩
        have hu := h1 j (by omega) hj
        have : ¬ day < a.Names[j].In.Until := by omega
        simp [onSpan, this]
      rw [hq, ix_at hml]; rfl
    | false =>
      have hq : a.Names.find? (fun x => onSpan x.In day) = none := by
        rw [List.find?_eq_none]
        intro x hx
        obtain ⟨k, hk, rfl⟩ := List.getElem_of_mem hx
        by_cases hkm : k < m
        · have hu := h1 k hk hkm
          have : ¬ day < a.Names[k].In.Until := by omega
          simp [onSpan, this]
        · by_cases hkk : k = m
          · subst hkk; simp [ho]
          · have h5 := hs.2 m k hk (by omega)
            have h6 := h2 m hml (Nat.le_refl m)
            have : ¬ a.Names[k].In.From ≤ day := by omega
            simp [onSpan, this]
      rw [hq]; rfl
  · rw [List.getElem?_eq_none (by omega)]
    have hq : a.Names.find? (fun x => onSpan x.In day) = none := by
      rw [List.find?_eq_none]
      intro x hx
      obtain ⟨k, hk, rfl⟩ := List.getElem_of_mem hx
      have hu := h1 k hk (by omega)
      have : ¬ day < a.Names[k].In.Until := by omega
      simp [onSpan, this]
    rw [hq]; rfl
theorem ron_eq {a : Aut} {day : Int} (h : a.Names.length ≤ 9223372036854775807) : ron_S a day = some (match onF a day with | some x => x.Text | none => []) := by
  have h1 := loop_scanP (ron_L1 a day) a.Names (fun _ x => bif onSpan x.In day then some x.Text else none) [] h (fun fu i hi => by
      have h0 : decide ((i : Int) < (a.Names.length : Int)) = true := decide_eq_true (by omega)
      simp only [ron_L1, List.length_map, ix_at hi, Option.bind_some, h0, cond_true, wrap_succ h hi, rOn_eq]
      cases onSpan a.Names[i].In day <;> rfl)
    (fun fu => by
      have h0 : decide ((a.Names.length : Int) < (a.Names.length : Int)) = false := decide_eq_false (by omega)
      simp only [ron_L1, List.length_map, h0, cond_false]) a.Names.length 0 (a.Names.length + 1) (by omega) (by omega) (by omega)
  rw [List.drop_zero] at h1
  have h2 := scanP_first (fun x : Nam => onSpan x.In day) (fun x => x.Text) [] a.Names 0
  have h3 : ron_S a day = some _ := h1
  rw [h3, h2]; unfold onF; cases a.Names.find? (fun x => onSpan x.In day) <;> rfl
end Go.Proofs.YtgpojnenbmlcbaaDoor
