/- The check of a list, whole. -/
import Derived.Test.YtgpojnenbmlcbaaDoorLCheck
namespace Go.Proofs.YtgpojnenbmlcbaaDoor
open Go Go.Abs

def found (l : List Aut) (id : Int) : Aut := (findA l id).getD zeroAut
def gone (l : List Aut) (id : Int) : Bool := (findA l id).isNone
def nextF (l : List Aut) (a : Aut) : Int :=
  bif a.Next.any (gone l) then 7 else bif a.Next.any (fun id => (found l id).Kind != a.Kind) then 10 else bif a.Next.any (fun id => (found l id).In.From != a.In.Until) then 16 else 0
theorem succ1 {l : List Aut} (h : l.length ≤ 9223372036854775807) (id : Int) : psuccessors_1_S id l = some (gone l id) := by
  simp only [psuccessors_1_S, psuccessors_1_F, pindex_eq h, Option.bind_some, Option.some.injEq, gone]
  have := (idx_find (l := l) (id := id)).1
  cases hq : findA l id with
  | none => exact decide_eq_true (this.2 hq)
  | some a => exact decide_eq_false fun hc => by rw [this.1 hc] at hq; exact nomatch hq
theorem found_ix {l : List Aut} {id : Int} (h : gone l id = false) : ix l (idxOf (fun a => a.ID == id) l) = some (found l id) := by
  unfold gone at h
  unfold found
  cases hq : findA l id with
  | none => rw [hq] at h; exact nomatch h
  | some a => exact (idx_find (l := l) (id := id)).2 a hq
theorem psucc_eq {l : List Aut} (h : okAuts l) {i : Nat} (hi : i < l.length) : psuccessors_S l (i : Int) = some (nextF l l[i]) := by
  have ha := (h.2 _ (List.getElem_mem hi)).2.2.2.2.1
  simp only [psuccessors_S, psuccessors_F, ix_at hi, Option.bind_some]
  rw [slContainsFuncI_eq ha fun x _ => succ1 h.1 x]
  simp only [Option.bind_some, nextF]
  cases hg : l[i].Next.any (gone l) with
  | true => rfl
  | false =>
    rw [List.any_eq_false] at hg
    have hg' : ∀ x ∈ l[i].Next, gone l x = false := fun x hx => by simpa using hg x hx
    rw [slContainsFuncI_eq (p := fun id => (found l id).Kind != l[i].Kind) ha fun x hx => by
      simp only [psuccessors_2_S, psuccessors_2_F, pindex_eq h.1, Option.bind_some, found_ix (hg' x hx)]]
    rw [slContainsFuncI_eq (p := fun id => (found l id).In.From != l[i].In.Until) ha fun x hx => by
      simp only [psuccessors_3_S, psuccessors_3_F, pindex_eq h.1, Option.bind_some, found_ix (hg' x hx)]]
    simp only [Option.bind_some, cond_false]
    cases l[i].Next.any (fun id => (found l id).Kind != l[i].Kind) with
    | true => rfl
    | false => cases l[i].Next.any (fun id => (found l id).In.From != l[i].In.Until) <;> rfl
theorem rFind_eq' {l : List Aut} (h : l.length ≤ 9223372036854775807) (id : Int) : rFind_S l id = some (found l id, !(gone l id)) := by
  rw [rFind_eq h]
  unfold found gone
  cases findA l id <;> rfl
theorem rnext_eq {l : List Aut} (h : l.length ≤ 9223372036854775807) {a : Aut} (ha : a.Next.length ≤ 9223372036854775807) : rnext_S l a = some (nextF l a) := by
  have end0 : decide ((a.Next.length : Int) < (a.Next.length : Int)) = false := decide_eq_false (by omega)
  have h3 := loop_scanP (rnext_L3 l a) a.Next (fun _ x => bif (found l x).In.From != a.In.Until then some 16 else none) 0 ha (fun fu i hi => by
      have h0 : decide ((i : Int) < (a.Next.length : Int)) = true := decide_eq_true (by omega)
      simp only [rnext_L3, List.length_map, ix_at hi, Option.bind_some, h0, cond_true, wrap_succ ha hi, rFind_eq' h]
      cases ((found l a.Next[i]).In.From != a.In.Until) <;> rfl)
    (fun fu => by simp only [rnext_L3, List.length_map, end0, cond_false]) a.Next.length 0 (a.Next.length + 1) (by omega) (by omega) (by omega)
  rw [List.drop_zero, scanP_any] at h3
  have h2 := loop_scanP (rnext_L2 l a (a.Next.length + 1)) a.Next (fun _ x => bif (found l x).Kind != a.Kind then some 10 else none) _ ha (fun fu i hi => by
      have h0 : decide ((i : Int) < (a.Next.length : Int)) = true := decide_eq_true (by omega)
      simp only [rnext_L2, List.length_map, ix_at hi, Option.bind_some, h0, cond_true, wrap_succ ha hi, rFind_eq' h]
      cases ((found l a.Next[i]).Kind != a.Kind) <;> rfl)
    (fun fu => by simp only [rnext_L2, List.length_map, end0, cond_false]; exact h3) a.Next.length 0 (a.Next.length + 1) (by omega) (by omega) (by omega)
  rw [List.drop_zero, scanP_any] at h2
  have h1 := loop_scanP (rnext_L1 l a (a.Next.length + 1)) a.Next (fun _ x => bif gone l x then some 7 else none) _ ha (fun fu i hi => by
      have h0 : decide ((i : Int) < (a.Next.length : Int)) = true := decide_eq_true (by omega)
      simp only [rnext_L1, List.length_map, ix_at hi, Option.bind_some, h0, cond_true, wrap_succ ha hi, rFind_eq' h, Bool.not_not]
      cases gone l a.Next[i] <;> rfl)
    (fun fu => by simp only [rnext_L1, List.length_map, end0, cond_false]; exact h2) a.Next.length 0 (a.Next.length + 1) (by omega) (by omega) (by omega)
  rw [List.drop_zero, scanP_any] at h1
  exact h1

def faultB (g : Nat → Aut → Int) (i : Nat) (a : Aut) : Option (Int × Int) := bif g i a != 0 then some ((i : Int), g i a) else none
def checkF (l : List Aut) : Int × Int :=
  bif decide (l.length > 64) then (-1, 8) else scanP (faultB fun i a => aloneF (prevOf l i) a) (scanP (faultB fun _ a => nextF l a) (-1, 0) 0 l) 0 l
theorem pCheck_L2_eq {l : List Aut} (h : l.length ≤ 9223372036854775807) {v2 : Int} {x4 : FuncId} {k : Int → Option (Int × Int)} {N : Nat} (hN : l.length < N) {g : Nat → Aut → Int} {d : Int × Int}
    (hg : ∀ (i : Nat) (hi : i < l.length), pdisp x4 l (i : Int) = some (g i l[i])) (hk : k (IntKind.i64.wrap (v2 + 1)) = some d) : pCheck_L2 l v2 x4 k N 0 = some (scanP (faultB g) d 0 l) := by
  have h1 := loop_scanP (pCheck_L2 l v2 x4 k) l (faultB g) d h (fun fu i hi => by
      have h0 : decide ((i : Int) < (l.length : Int)) = true := decide_eq_true (by omega)
      simp only [pCheck_L2, List.length_map, Option.bind_some, h0, cond_true, wrap_succ h hi, hg i hi, faultB]
      cases (g i l[i] != 0) <;> rfl)
    (fun fu => by
      have h0 : decide ((l.length : Int) < (l.length : Int)) = false := decide_eq_false (by omega)
      simp only [pCheck_L2, List.length_map, h0, cond_false]; exact hk) l.length 0 N (by omega) (by omega) (by omega)
  simpa using h1
theorem pCheck_eq {l : List Aut} (h : okAuts l) (hf : few l = true) : pCheck_S l = some (checkF l) := by
  simp only [pCheck_S, pCheck_F, checkF, List.length_map]
  by_cases h64 : l.length > 64
  · have e : decide ((l.length : Int) > 64) = true := decide_eq_true (by omega)
    simp [e, h64]
  · have e : decide ((l.length : Int) > 64) = false := decide_eq_false (by omega)
    simp only [e, h64, decide_false, cond_false]
    have k2 : ∀ fu, pCheck_L1 l (l.length + 3) (fu + 1) 2 = some ((-1), 0) := fun fu => by simp only [pCheck_L1]; rfl
    have k1 : ∀ fu, pCheck_L1 l (l.length + 3) (fu + 2) 1 = some (scanP (faultB fun _ a => nextF l a) (-1, 0) 0 l) := fun fu => by
      show pCheck_L2 l 1 38 (fun v2 => pCheck_L1 l (l.length + 3) (fu + 1) v2) (l.length + 3) 0 = _
      exact pCheck_L2_eq h.1 (by omega) (fun i hi => psucc_eq h hi) (k2 fu)
    show pCheck_L2 l 0 37 (fun v2 => pCheck_L1 l (l.length + 3) (l.length + 2) v2) (l.length + 3) 0 = _
    exact pCheck_L2_eq h.1 (by omega) (fun i hi => palone_eq h hf hi) (k1 l.length)
theorem rCheck_eq {l : List Aut} (h : okAuts l) (hf : few l = true) : rCheck_S l = some (checkF l) := by
  simp only [rCheck_S, rCheck_F, checkF, List.length_map]
  by_cases h64 : l.length > 64
  · have e : decide ((l.length : Int) > 64) = true := decide_eq_true (by omega)
    simp [e, h64]
  · have e : decide ((l.length : Int) > 64) = false := decide_eq_false (by omega)
    simp only [e, h64, decide_false, cond_false]
    have end0 : decide ((l.length : Int) < (l.length : Int)) = false := decide_eq_false (by omega)
    have h2 := loop_scanP (rCheck_L2 l) l (faultB fun _ a => nextF l a) (-1, 0) h.1 (fun fu i hi => by
        have h0 : decide ((i : Int) < (l.length : Int)) = true := decide_eq_true (by omega)
        simp only [rCheck_L2, List.length_map, ix_at hi, Option.bind_some, h0, cond_true, wrap_succ h.1 hi, rnext_eq h.1 (h.2 _ (List.getElem_mem hi)).2.2.2.2.1, faultB]
        cases (nextF l l[i] != 0) <;> rfl)
      (fun fu => by simp only [rCheck_L2, List.length_map, end0, cond_false]) l.length 0 (l.length + 1) (by omega) (by omega) (by omega)
    rw [List.drop_zero] at h2
    have h1 := loop_scanP (rCheck_L1 l (l.length + 1)) l (faultB fun i a => aloneF (prevOf l i) a) _ h.1 (fun fu i hi => by
        have h0 : decide ((i : Int) < (l.length : Int)) = true := decide_eq_true (by omega)
        simp only [rCheck_L1, List.length_map, Option.bind_some, h0, cond_true, wrap_succ h.1 hi, rown_eq h hf hi, faultB]
        cases (aloneF (prevOf l i) l[i] != 0) <;> rfl)
      (fun fu => by simp only [rCheck_L1, List.length_map, end0, cond_false]; exact h2) l.length 0 (l.length + 1) (by omega) (by omega) (by omega)
    rw [List.drop_zero] at h1
    exact h1
end Go.Proofs.YtgpojnenbmlcbaaDoor
