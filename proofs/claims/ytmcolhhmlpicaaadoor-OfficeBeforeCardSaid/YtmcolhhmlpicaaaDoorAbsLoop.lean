/-
  The abstract weakest precondition is monotone; a rule for loops.
-/
import Derived.Test.YtmcolhhmlpicaaaDoorAbsRes
namespace Go.Abs
open Go Go.RowKit

section
variable {H : Orc} {T : Tab} {n : Nat}

theorem wpOps_mono (all : List Oper) {K K' : St → Prop} (hk : ∀ st, K st → K' st) : ∀ (l : List Oper) (st : St), wpOps H T n all l st K → wpOps H T n all l st K'
  | [], st, h => hk st h
  | o :: rest, st, h => by
    simp only [wpOps] at h ⊢
    replace h := bif_true h
    obtain ⟨hd, h⟩ := h
    simp only [hd, cond_true]
    have go := fun st => wpOps_mono all hk rest st
    have ex : ∀ st : St, (wpO H T (look st) st.obj o.dst o.op o.type fun r _ u => wpOps H T n all rest ⟨put st.env o.dst r, upd st.obj u⟩ K) → (wpO H T (look st) st.obj o.dst o.op o.type fun r _ u => wpOps H T n all rest ⟨put st.env o.dst r, upd st.obj u⟩ K') :=
      fun st h => wpO_mono h fun r _ u h => go _ h
    split at h
    · split at h
      · unfold wpNil at h ⊢
        split at h
        · exact fun b hb => go _ (h b hb)
        · exact h.elim
      · exact ex st h
    · rename_i j want _
      split at h
      · exact h.elim
      · split at h
        · cases want
          · exact go _ h
          · exact ex st h
        · cases want
          · exact ex st h
          · exact go _ h
        · rename_i dj _ _ _ _ b _
          refine ⟨fun hb => ?_, fun hb => ?_⟩
          · have h1 := h.1 hb
            cases want
            · exact go _ h1
            · exact ex ⟨put st.env (some _) .kt, st.obj⟩ h1
          · have h1 := h.2 hb
            cases want
            · exact ex ⟨put st.env (some _) .kf, st.obj⟩ h1
            · exact go _ h1
        · exact go _ h
        · exact h.elim
theorem refineK_mono {g : Bool} {r : SV} {K K' : SV → Prop} (hk : ∀ r, K r → K' r) (h : refineK g r K) : refineK g r K' := by
  unfold refineK at h ⊢
  cases g with
  | false => exact hk _ h
  | true =>
    simp only [cond_true] at h ⊢
    split at h
    · exact ⟨fun hb => hk _ (h.1 hb), fun hb => hk _ (h.2 hb)⟩
    · exact hk _ h
theorem wpTr_mono (all : List Oper) {K K' : List Ent → St → Prop} (hk : ∀ tr st, K tr st → K' tr st) : ∀ (l : List Oper) (i : Nat) (st : St) (tr : List Ent), wpTr H T n all i l st tr K → wpTr H T n all i l st tr K'
  | [], i, st, tr, h => hk _ _ h
  | o :: rest, i, st, tr, h => by
    simp only [wpTr] at h ⊢
    replace h := bif_true h
    obtain ⟨hd, h⟩ := h
    simp only [hd, cond_true]
    have go := fun i st tr => wpTr_mono all hk rest i st tr
    have ex : (wpO H T (look st) st.obj o.dst o.op o.type fun r rd u => refineK (isGuard all i) r fun r => wpTr H T n all (i + 1) rest (stepSt st o ⟨r, rd, u⟩) (⟨r, rd, u⟩ :: tr) K) →
        (wpO H T (look st) st.obj o.dst o.op o.type fun r rd u => refineK (isGuard all i) r fun r => wpTr H T n all (i + 1) rest (stepSt st o ⟨r, rd, u⟩) (⟨r, rd, u⟩ :: tr) K') :=
      fun h => wpO_mono h fun r rd u h => refineK_mono (fun r h => go _ _ _ h) h
    split at h
    · exact ex h
    · rename_i j want _
      split at h
      · exact h.elim
      · split at h
        · cases want
          · exact go _ _ _ h
          · exact ex h
        · cases want
          · exact ex h
          · exact go _ _ _ h
        · exact go _ _ _ h
        · exact h.elim
theorem wpA_mono (code : Code) : ∀ {K K' : Exit → St → Prop} (_ : ∀ e st, K e st → K' e st) (st : St), wpA H T n code K st → wpA H T n code K' st := by
  induction code with
  | skip => intro K K' hk st h; exact hk _ _ h
  | region id ops draw =>
    intro K K' hk st h
    simp only [wpA] at h ⊢
    cases draw with
    | true => exact wpTr_mono ops.toList (fun tr st h => ⟨h.1, hk _ _ h.2⟩) _ _ _ _ h
    | false => exact wpOps_mono _ (fun st h => hk _ _ h) _ _ h
  | seq a b iha ihb =>
    intro K K' hk st h
    simp only [wpA] at h ⊢
    cases hj : isJoin a with
    | true =>
      rw [hj] at h
      simp only [cond_true] at h ⊢
      refine iha (fun e st h => ?_) st h
      cases e with
      | normal => exact h.imp (ihb hk st) fun ⟨st0, hw, h⟩ => ⟨st0, hw, ihb hk st0 h⟩
      | _ => exact hk _ _ h
    | false =>
      rw [hj] at h
      simp only [cond_false] at h ⊢
      refine iha (fun e st h => ?_) st h
      cases e with
      | normal => exact ihb hk st h
      | _ => exact hk _ _ h
  | cond c a b iha ihb =>
    intro K K' hk st h
    simp only [wpA] at h ⊢
    split at h
    · exact iha hk st h
    · exact ihb hk st h
    · exact ⟨fun hq => iha hk st (h.1 hq), fun hq => ihb hk st (h.2 hq)⟩
    · exact h.elim
  | block id body ih =>
    intro K K' hk st h
    simp only [wpA] at h ⊢
    refine ih (fun e st h => ?_) st h
    cases e with
    | exit j =>
      simp only at h ⊢
      cases hb : Nat.beq j id with
      | true => rw [hb] at h; exact hk _ _ h
      | false => rw [hb] at h; exact hk _ _ h
    | _ => exact hk _ _ h
  | loop body ih =>
    intro K K' hk st h
    simp only [wpA] at h ⊢
    obtain ⟨I, h0, hs⟩ := h
    refine ⟨I, h0, fun k st1 hi => ih (fun e st h => ?_) st1 (hs k st1 hi)⟩
    cases e with
    | normal => exact h
    | _ => exact hk _ _ h
  | exit id => intro K K' hk st h; exact hk _ _ h
  | ret => intro K K' hk st h; exact hk _ _ h
  | _ => intro K K' hk st h; exact h.elim

/-- A loop: at its head the slots and objects that are listed are known, as functions of x; μ goes down. -/
theorem loop_of {α : Type} (mk : α → List (Nat × SV)) (mo : α → List (Nat × AObj)) (I : α → Prop) (μ : α → Nat) (x0 : α) {body : Code} {K : Exit → St → Prop} {st : St} (h0 : I x0) (he : EnvOk st (mk x0)) (ho : ObjsOk st (mo x0))
    (step : ∀ x, I x → wpA H T n body (fun e st2 => match e with | .normal => ∃ x', μ x' < μ x ∧ I x' ∧ EnvOk st2 (mk x') ∧ ObjsOk st2 (mo x') | e => K e st2) ⟨mkEnv (mk x), mkObj (mo x)⟩) :
    wpA H T n (.loop body) K st := by
  refine ⟨fun k st => ∃ x, I x ∧ k = μ x ∧ st = ⟨mkEnv (mk x), mkObj (mo x)⟩, ⟨μ x0, _, weak_mk he ho, x0, h0, rfl, rfl⟩, ?_⟩
  rintro k st ⟨x, hx, rfl, rfl⟩
  refine wpA_mono body (fun e st2 h => ?_) _ (step x hx)
  cases e with
  | normal =>
    obtain ⟨x', hlt, hx', he', ho'⟩ := h
    exact ⟨μ x', _, hlt, weak_mk he' ho', x', hx', rfl, rfl⟩
  | _ => exact h
end
theorem holds_mk {P : Program} {G : World → Prop} {f : FuncId} {args : List CV} {r : CV} (hb : HasBody P f) (h : ∀ (Z : Zone) (w : World) (vs : List Value), RepL Z w args vs → (∀ b o, Z b o → b < w.heap.size) → G w →
    Calls P f vs.toArray w fun e w' => ∃ (x : Value) (Z' : Zone), e = .returned x ∧ Rep Z' w' r x ∧ (∀ b o, Z b o → Z' b o) ∧
      (∀ b o, Z' b o → (Z b o ∨ w.heap.size ≤ b) ∧ b < w'.heap.size) ∧ Below w.heap.size w w') : Holds P G f args r :=
  ⟨hb, fun Z w vs h1 h2 h3 => (h Z w vs h1 h2 (h3 w (Below.refl _ _))).mono fun _ _ ⟨x, Z', q1, q2, q3⟩ => ⟨x, Z', q1, .mk q2, q3⟩⟩
theorem holds_use {P : Program} {G : World → Prop} (hG : ∀ w w', G w → Below w.heap.size w w' → G w') {f : FuncId} {args : List CV} {r : CV} (h : Holds P G f args r) (hp : r.pure = true) : HasBody P f ∧ ∀ (Z : Zone) (w : World) (vs : List Value), RepL Z w args vs → (∀ b o, Z b o → b < w.heap.size) → G w →
    Calls P f vs.toArray w fun e w' => ∃ (x : Value) (Z' : Zone), e = .returned x ∧ Rep Z' w' r x ∧ (∀ b o, Z b o → Z' b o) ∧
      (∀ b o, Z' b o → (Z b o ∨ w.heap.size ≤ b) ∧ b < w'.heap.size) ∧ Below w.heap.size w w' :=
  ⟨h.1, fun Z w vs h1 h2 h3 => (h.2 Z w vs h1 h2 (hG w · h3)).mono fun _ _ ⟨x, Z', q1, q2, q3⟩ => ⟨x, Z', q1, q2.pure hp, q3⟩⟩
end Go.Abs
