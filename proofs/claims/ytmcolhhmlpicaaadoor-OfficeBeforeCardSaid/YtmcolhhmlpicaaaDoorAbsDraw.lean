/-
  Soundness: a region that draws its order; one walk of the text's order serves every order.
-/
import Derived.Test.YtmcolhhmlpicaaaDoorAbsXL
import Derived.Test.YtmcolhhmlpicaaaDoorAbsSound0
namespace Go.Abs
open Go Go.RowKit

section
variable {H : Orc} {T : Tab} {lk : Operand → SV} {obj : Objs} {d : Option Nat} {ty : TypeId} {K : KOp}


theorem wpBin_extract {op : BinOp} {ib : Bool} {x y : Value} {K : Value → Prop} (h : wpBin op ib x y K) : ∃ v, wpBin op ib x y (fun v' => v' = v) ∧ K v := by
  unfold wpBin at h ⊢
  split at h
  · exact ⟨_, ⟨h.1, h.2.1, rfl⟩, h.2.2⟩
  · exact ⟨_, ⟨h.1, h.2.1, rfl⟩, h.2.2⟩
  · exact ⟨_, ⟨h.1, rfl⟩, h.2⟩
  · exact ⟨_, ⟨h.1, rfl⟩, h.2⟩
  · split at h
    · rename_i r hr
      replace h := bif_true h
      exact ⟨r, by rw [h.1]; rfl, h.2⟩
    · exact h.elim
  · obtain ⟨h1, s, hs, hk⟩ := h
    exact ⟨_, ⟨h1, s, hs, rfl⟩, hk⟩
  · split at h
    · rename_i r hr; exact ⟨r, rfl, h⟩
    · exact h.elim
  · replace h := bif_true h
    exact ⟨_, by rw [h.1]; rfl, h.2⟩
  · replace h := bif_true h
    exact ⟨_, by rw [h.1]; rfl, h.2⟩
  · exact h.elim

theorem wpBin_mono {op : BinOp} {ib : Bool} {x y : Value} {K K' : Value → Prop} (h : wpBin op ib x y K) (hk : ∀ v, K v → K' v) : wpBin op ib x y K' := by
  unfold wpBin at h ⊢
  split at h
  · exact ⟨h.1, h.2.1, hk _ h.2.2⟩
  · exact ⟨h.1, h.2.1, hk _ h.2.2⟩
  · exact ⟨h.1, hk _ h.2⟩
  · exact ⟨h.1, hk _ h.2⟩
  · split at h
    · replace h := bif_true h
      rw [h.1]; exact hk _ h.2
    · exact h.elim
  · obtain ⟨h1, s, hs, h⟩ := h
    exact ⟨h1, s, hs, hk _ h⟩
  · split at h
    · exact hk _ h
    · exact h.elim
  · replace h := bif_true h
    rw [h.1]; exact hk _ h.2
  · replace h := bif_true h
    rw [h.1]; exact hk _ h.2
  · exact h.elim

theorem wpOp_extract {op : Op} (h : wpOp H T lk obj (fun _ => False) d op ty K) : ∃ r rd u, (∀ K' : KOp, K' r rd u → wpOp H T lk obj (fun _ => False) d op ty K') ∧ K r rd u := by
  cases op with
  | move x => exact ⟨_, _, _, fun _ hk => hk, h⟩
  | assign x =>
    simp only [wpOp] at h ⊢
    split at h
    · rename_i d
      unfold wpAssign at h ⊢
      split at h
      · split at h
        · split at h
          · replace h := bif_true h
            exact ⟨_, _, _, fun _ hk => by rw [h.1]; exact hk, h.2⟩
          · exact h.elim
        · exact h.elim
      · cases hs : lk x with
        | ap t g sz es =>
          simp only [hs] at h ⊢
          cases hob : obj t with
          | mk g' o =>
            simp only [hob] at h ⊢
            cases o with
            | tok el s =>
              simp only at h ⊢
              cases hb : (Nat.beq g g' && !(Nat.beq t d)) with
              | true => rw [hb] at h; exact ⟨_, _, _, fun _ hk => hk, h⟩
              | false => rw [hb] at h; exact ⟨_, _, _, fun _ hk => hk, h⟩
            | none => exact ⟨_, _, _, fun _ hk => hk, h⟩
            | spent => exact ⟨_, _, _, fun _ hk => hk, h⟩
            | var cs => exact ⟨_, _, _, fun _ hk => hk, h⟩
            | ro cs => exact ⟨_, _, _, fun _ hk => hk, h⟩
            | varx cs => exact ⟨_, _, _, fun _ hk => hk, h⟩
            | arr el sz ds foc => exact ⟨_, _, _, fun _ hk => hk, h⟩
            | map es => exact ⟨_, _, _, fun _ hk => hk, h⟩
        | any => simp only [hs] at h ⊢; exact ⟨_, _, _, fun _ hk => hk, h⟩
        | un => simp only [hs] at h ⊢; exact ⟨_, _, _, fun _ hk => hk, h⟩
        | kt => simp only [hs] at h ⊢; exact ⟨_, _, _, fun _ hk => hk, h⟩
        | kf => simp only [hs] at h ⊢; exact ⟨_, _, _, fun _ hk => hk, h⟩
        | c x => simp only [hs] at h ⊢; exact ⟨_, _, _, fun _ hk => hk, h⟩
        | pm t g o => simp only [hs] at h ⊢; exact ⟨_, _, _, fun _ hk => hk, h⟩
        | fnr f cs => simp only [hs] at h ⊢; exact ⟨_, _, _, fun _ hk => hk, h⟩
        | rs t g => simp only [hs] at h ⊢; exact ⟨_, _, _, fun _ hk => hk, h⟩
        | agx cs => simp only [hs] at h ⊢; exact ⟨_, _, _, fun _ hk => hk, h⟩
        | pe t g m o => simp only [hs] at h ⊢; exact ⟨_, _, _, fun _ hk => hk, h⟩
        | mr t g => simp only [hs] at h ⊢; exact ⟨_, _, _, fun _ hk => hk, h⟩
    · exact h.elim
  | pick c x y =>
    simp only [wpOp] at h ⊢
    split at h
    · exact ⟨_, _, _, fun _ hk => hk, h⟩
    · exact ⟨_, _, _, fun _ hk => hk, h⟩
    · rename_i q _
      split at h
      · exact ⟨_, _, _, fun _ hk => hk, h⟩
      · cases q with
        | true => exact ⟨_, _, _, fun _ hk => ⟨fun _ => hk, fun h => by cases h⟩, h.1 rfl⟩
        | false => exact ⟨_, _, _, fun _ hk => ⟨fun h => (by cases h), fun _ => hk⟩, h.2 rfl⟩
    · exact h.elim
  | alloc e =>
    simp only [wpOp] at h ⊢
    split at h
    · exact ⟨_, _, _, fun _ hk => hk, h⟩
    · exact h.elim
  | box e x =>
    simp only [wpOp] at h ⊢
    split at h
    · replace h := bif_true h
      exact ⟨_, _, _, fun _ hk => by rw [h.1]; exact hk, h.2⟩
    · exact h.elim
  | build t ps =>
    simp only [wpOp] at h ⊢
    split at h
    · replace h := bif_true h
      obtain ⟨hb, h⟩ := h
      simp only [hb, cond_true]
      split at h
      · exact ⟨_, _, _, fun _ hk => hk, h⟩
      · exact h.elim
    · exact h.elim
  | buildSlice t len ps =>
    simp only [wpOp] at h ⊢
    split at h
    · split at h
      · split at h
        · replace h := bif_true h
          exact ⟨_, _, _, fun _ hk => by rw [h.1]; exact hk, h.2⟩
        · exact h.elim
      · exact h.elim
    · exact h.elim
  | load t x =>
    simp only [wpOp] at h ⊢
    split at h
    · split at h
      · split at h
        · replace h := bif_true h
          obtain ⟨hb, h⟩ := h
          simp only [hb, cond_true]
          split at h
          · exact ⟨_, _, _, fun _ hk => hk, h⟩
          · exact h.elim
        · replace h := bif_true h
          obtain ⟨hb, h⟩ := h
          simp only [hb, cond_true]
          split at h
          · exact ⟨_, _, _, fun _ hk => hk, h⟩
          · exact h.elim
        · exact h.elim
      · split at h
        · exact ⟨_, _, _, fun _ hk => hk, h⟩
        · exact h.elim
      · exact h.elim
    · exact h.elim
  | store t x y =>
    simp only [wpOp] at h ⊢
    split at h
    · split at h
      · replace h := bif_true h
        obtain ⟨hb, h⟩ := h
        simp only [hb, cond_true]
        split at h
        · exact ⟨_, _, _, fun _ hk => hk, h⟩
        · exact h.elim
      · exact h.elim
    · exact h.elim
  | nilCheck x =>
    simp only [wpOp] at h ⊢
    split at h
    · split at h
      · replace h := bif_true h
        exact ⟨_, _, _, fun _ hk => by rw [h.1]; exact hk, h.2⟩
      · replace h := bif_true h
        exact ⟨_, _, _, fun _ hk => by rw [h.1]; exact hk, h.2⟩
      · exact h.elim
    · exact ⟨_, _, _, fun _ hk => hk, h⟩
    · exact ⟨_, _, _, fun _ hk => hk, h⟩
    · exact ⟨_, _, _, fun _ hk => hk, h⟩
    · exact h.elim
  | binOp op t x y t' =>
    simp only [wpOp] at h ⊢
    split at h
    · obtain ⟨v, hv, hk⟩ := wpBin_extract h
      refine ⟨_, _, _, fun K' hk' => ?_, hk⟩
      exact wpBin_mono hv fun v' e => by subst e; exact hk'
    · exact h.elim
  | unOp op t x =>
    cases op with
    | not =>
      simp only [wpOp] at h ⊢
      split at h
      · exact ⟨_, _, _, fun _ hk => hk, h⟩
      · exact ⟨_, _, _, fun _ hk => hk, h⟩
      · exact ⟨_, _, _, fun _ hk => hk, h⟩
      · exact h.elim
    | neg =>
      simp only [wpOp] at h ⊢
      split at h
      · exact ⟨_, _, _, fun _ hk => hk, h⟩
      · exact h.elim
    | _ => exact h.elim
  | convert s t x =>
    simp only [wpOp] at h ⊢
    split at h
    · exact ⟨_, _, _, fun _ hk => hk, h⟩
    · exact ⟨_, _, _, fun _ hk => hk, h⟩
    · exact h.elim
  | makeFunc fn first captured =>
    cases fn with
    | func f =>
      simp only [wpOp] at h ⊢
      replace h := bif_true h
      exact ⟨_, _, _, fun _ hk => by rw [h.1]; exact hk, h.2⟩
    | _ => exact h.elim
  | fieldAddr t x k =>
    simp only [wpOp] at h ⊢
    split at h
    · split at h
      · split at h
        · rename_i i _
          cases hz : Nat.beq i.size 0 with
          | true => rw [hz] at h; exact h.elim
          | false =>
            rw [hz] at h
            simp only [cond_false] at h ⊢
            split at h
            · split at h
              · replace h := bif_true h
                exact ⟨_, _, _, fun _ hk => by rw [h.1]; exact hk, h.2⟩
              · replace h := bif_true h
                exact ⟨_, _, _, fun _ hk => by rw [h.1]; exact hk, h.2⟩
              · exact h.elim
            · exact ⟨_, _, _, fun _ hk => hk, h⟩
            · exact h.elim
        · exact h.elim
      · exact h.elim
    · exact h.elim
  | field t x k =>
    simp only [wpOp] at h ⊢
    split at h
    · split at h
      · split at h
        · split at h
          · exact ⟨_, _, _, fun _ hk => hk, h⟩
          · exact h.elim
        · exact h.elim
      · exact h.elim
    · exact h.elim
  | indexAddr t x i =>
    simp only [wpOp] at h ⊢
    split at h
    · split at h
      · obtain ⟨h0, h1, dd, h2, h3⟩ := h
        exact ⟨_, _, _, fun _ hk => ⟨h0, h1, dd, h2, hk⟩, h3⟩
      · exact h.elim
    · exact h.elim
  | index t x i =>
    simp only [wpOp] at h ⊢
    split at h
    · split at h
      · obtain ⟨h0, b, h2, h3⟩ := h
        exact ⟨_, _, _, fun _ hk => ⟨h0, b, h2, hk⟩, h3⟩
      · exact h.elim
    · exact h.elim
  | extract x k =>
    simp only [wpOp] at h ⊢
    split at h
    · split at h
      · exact ⟨_, _, _, fun _ hk => hk, h⟩
      · exact h.elim
    · exact h.elim
  | call c =>
    unfold wpOp at h ⊢
    have hcall : wpCall H lk obj (fun _ => False) c K → ∃ r rd u, (∀ K' : KOp, K' r rd u → wpCall H lk obj (fun _ => False) c K') ∧ K r rd u := by
      intro h
      unfold wpCall at h ⊢
      split at h
      · split at h
        · obtain ⟨r, h1, h2, h3⟩ | h := h
          · exact ⟨_, _, _, fun _ hk => .inl ⟨r, h1, h2, hk⟩, h3⟩
          · exact h.elim
        · exact h.elim
      · exact h.elim
    cases hcc : c.callee with
    | builtin b =>
      simp only [hcc] at h ⊢
      unfold wpBuiltin at h ⊢
      split at h
      · split at h
        · split at h
          · exact ⟨_, _, _, fun _ hk => hk, h⟩
          · exact h.elim
        · split at h
          · exact ⟨_, _, _, fun _ hk => hk, h⟩
          · exact h.elim
      · split at h
        · exact ⟨_, _, _, fun _ hk => hk, h⟩
        · exact h.elim
      · split at h
        · exact ⟨_, _, _, fun _ hk => hk, h⟩
        · exact h.elim
      · split at h
        · split at h
          · split at h
            · replace h := bif_true h
              obtain ⟨hb, ⟨h1, h2, es', he', h⟩ | h⟩ := h
              rotate_left
              · exact h.elim
              simp only [hb, cond_true]
              clear hb
              generalize Nat.beq _ _ = q at h ⊢
              cases q with
              | true => exact ⟨_, _, _, fun _ hk => .inl ⟨h1, h2, es', he', hk⟩, h⟩
              | false => exact ⟨_, _, _, fun _ hk => .inl ⟨h1, h2, es', he', hk⟩, h⟩
            · exact h.elim
          · exact h.elim
        · exact h.elim
      · exact h.elim
    | value f => simp only [hcc] at h ⊢; exact hcall h
    | invoke r m => simp only [hcc] at h ⊢; exact hcall h
  | _ => exact h.elim
theorem wpEff_extract {op : Op} (h : wpEff H lk obj d op ty K) : ∃ r rd u, (∀ K' : KOp, K' r rd u → wpEff H lk obj d op ty K') ∧ K r rd u := by
  obtain ⟨τ, off, args, os, r, os', h1, h2, h3, h4, h5⟩ := h
  exact ⟨_, _, _, fun K' hk => ⟨τ, off, args, os, r, os', h1, h2, h3, h4, hk⟩, h5⟩
theorem wpO1_extract {op : Op} (h : wpO1 H T lk obj d op ty K) : ∃ r rd u, (∀ K' : KOp, K' r rd u → wpO1 H T lk obj d op ty K') ∧ K r rd u := by
  rcases wpOp_split op h with h | h
  · obtain ⟨r, rd, u, h1, h2⟩ := wpOp_extract h
    exact ⟨r, rd, u, fun K' hk => wpOp_monoF (fun h => h.elim) op (h1 K' hk), h2⟩
  · obtain ⟨r, rd, u, h1, h2⟩ := wpX_extract h
    exact ⟨r, rd, u, fun K' hk => x_imp op (h1 K' hk), h2⟩
theorem wpO2_extract {op : Op} (h : wpO2 H T lk obj d op ty K) : ∃ r rd u, (∀ K' : KOp, K' r rd u → wpO2 H T lk obj d op ty K') ∧ K r rd u := by
  rcases h with h | h
  · obtain ⟨r, rd, u, h1, h2⟩ := wpO1_extract h
    exact ⟨r, rd, u, fun K' hk => .inl (h1 K' hk), h2⟩
  · obtain ⟨r, rd, u, h1, h2⟩ := wpEff_extract h
    exact ⟨r, rd, u, fun K' hk => .inr (h1 K' hk), h2⟩
theorem wpO0_mono {op : Op} {K' : KOp} (h : wpO0 H T lk obj d op ty K) (hk : ∀ r rd u, K r rd u → K' r rd u) : wpO0 H T lk obj d op ty K' := by
  rcases wpOp_path op h with h | ⟨h, hp⟩
  · obtain ⟨r, rd, u, h1, h2⟩ := wpOp_extract h
    exact wpOp_monoF (fun h => h.elim) op (h1 K' (hk _ _ _ h2))
  · refine hp _ _ ?_
    rcases h with h | h
    · obtain ⟨r, rd, u, h1, h2⟩ := wpX_extract h
      exact .inl (h1 K' (hk _ _ _ h2))
    · obtain ⟨r, rd, u, h1, h2⟩ := wpEff_extract h
      exact .inr (h1 K' (hk _ _ _ h2))
theorem wpO_mono {op : Op} {K' : KOp} (h : wpO H T lk obj d op ty K) (hk : ∀ r rd u, K r rd u → K' r rd u) : wpO H T lk obj d op ty K' := by
  unfold wpO at h ⊢
  cases hb : effFirst op with
  | true =>
    rw [hb] at h
    exact h.imp (fun h => wpO0_mono h hk) fun h => by
      obtain ⟨r, rd, u, h1, h2⟩ := wpEff_extract h
      exact h1 K' (hk _ _ _ h2)
  | false => rw [hb] at h; exact wpO0_mono h hk
end

section
variable {P : Program} {G : World → Prop} {T : Tab} {Z0 : Base} {w0 : World} {S : Nat → Prop} {n : Nat} {Z Z' : Zone} {E : Nat → Value} {st : St} {a : Act} {w w' : World}

def Ref (r r' : SV) : Prop := r' = r ∨ (r = .c (.v (.bool true)) ∧ r' = .kt) ∨ (r = .c (.v (.bool false)) ∧ r' = .kf)
theorem Ref.rep {obj : Objs} {r r' : SV} {x : Value} (h : Ref r r') (hr : RepS Z w obj E r x) : RepS Z w obj E r' x := by
  rcases h with rfl | ⟨rfl, rfl⟩ | ⟨rfl, rfl⟩
  · exact hr
  · rw [rep_cv hr]; exact .kt
  · rw [rep_cv hr]; exact .kf

def guardSays (all : List Oper) (st : St) (o : Oper) : Option Bool :=
  match o.guard with
  | .none => some true
  | some (j, want) => match (all[j]?).bind (·.dst) with
    | .none => .none
    | some dj => match st.env dj with
      | .kt => some want
      | .kf => some (!want)
      | .un => some false
      | _ => .none
def EntOk (H : Orc) (T : Tab) (n : Nat) (all : List Oper) (st : St) (o : Oper) (e : Ent) : Prop :=
  inRange n o.dst = true ∧ match guardSays all st o with
    | some true => wpO2 H T (look st) st.obj o.dst o.op o.type fun r rd u => Ref r e.r ∧ rd = e.rd ∧ u = e.wr
    | some false => e = ⟨.un, [], []⟩
    | .none => False

end
end Go.Abs
