/-
  The plain rules and the others: how they lie beside each other.
-/
import Derived.Test.YtmcolhhmlpicaaaDoorAbsEff
namespace Go.Abs
open Go Go.RowKit

section
variable {H : Orc} {T : Tab} {lk : Operand → SV} {obj : Objs} {F F' : KOp → Prop} {d : Option Nat} {ty : TypeId} {K : KOp}

theorem bif_imp {b : Bool} {p q r s : Prop} (h1 : p → r) (h2 : q → s) (h : bif b then p else q) : bif b then r else s := by cases b; exact h2 h; exact h1 h

theorem wpBuiltin_monoF (hF : F K → F' K) (b : Builtin) (c : Call) : wpBuiltin T lk obj F b c d K → wpBuiltin T lk obj F' b c d K := by
  unfold wpBuiltin
  repeat' split
  all_goals first | exact id | exact hF | exact bif_imp (Or.imp id hF) id
theorem wpCall_monoF (hF : F K → F' K) (c : Call) : wpCall H lk obj F c K → wpCall H lk obj F' c K := by
  unfold wpCall
  repeat' split
  all_goals first | exact hF | exact Or.imp id hF
theorem wpOp_monoF (hF : F K → F' K) (op : Op) : wpOp H T lk obj F d op ty K → wpOp H T lk obj F' d op ty K := by
  cases op <;> simp only [wpOp]
  case call c => split <;> first | exact wpBuiltin_monoF hF _ _ | exact wpCall_monoF hF _
  case unOp o t x => cases o <;> simp only <;> (repeat' split) <;> first | exact id | exact hF
  case makeFunc f x y => cases f <;> simp only <;> first | exact id | exact hF
  case fieldAddr t x k =>
    repeat' split
    all_goals first | exact id | exact hF | (refine bif_imp id ?_; repeat' split) | skip
    all_goals first | exact id | exact hF
  all_goals first | exact hF | exact id | skip
  all_goals (repeat' split)
  all_goals first | exact id | exact hF | exact bif_imp id hF
theorem wpBuiltin_split (b : Builtin) (c : Call) : wpBuiltin T lk obj F b c d K → wpBuiltin T lk obj (fun _ => False) b c d K ∨ F K := by
  unfold wpBuiltin
  repeat' split
  all_goals first | exact .inl | exact .inr | skip
  all_goals
    intro h
    replace h := bif_true h
    rcases h with ⟨hb, h | h⟩
    · left; rw [hb]; exact .inl h
    · exact .inr h
theorem wpCall_split (c : Call) : wpCall H lk obj F c K → wpCall H lk obj (fun _ => False) c K ∨ F K := by
  unfold wpCall
  repeat' split
  all_goals first | exact .inr | exact fun h => h.imp .inl id
theorem wpOp_split (op : Op) : wpOp H T lk obj F d op ty K → wpOp H T lk obj (fun _ => False) d op ty K ∨ F K := by
  cases op <;> simp only [wpOp]
  case call c => split <;> first | exact wpBuiltin_split _ _ | exact wpCall_split _
  case unOp o t x => cases o <;> simp only <;> (repeat' split) <;> first | exact .inl | exact .inr
  case makeFunc f x y => cases f <;> simp only <;> first | exact .inl | exact .inr
  case fieldAddr t x k =>
    split
    · split
      · split
        · rename_i i _
          cases hz : Nat.beq i.size 0 with
          | true => exact .inl
          | false =>
            simp only [cond_false]
            repeat' split
            all_goals first | exact .inl | exact .inr
        · exact .inl
      · exact .inl
    · exact .inl
  all_goals first | exact .inr | exact .inl | skip
  all_goals (repeat' split)
  all_goals first | exact .inl | exact .inr

/-- Where an operation goes on by F, it does so whatever F is. -/
theorem wpBuiltin_path (b : Builtin) (c : Call) : wpBuiltin T lk obj F b c d K → wpBuiltin T lk obj (fun _ => False) b c d K ∨ (F K ∧ ∀ (F' : KOp → Prop) (K' : KOp), F' K' → wpBuiltin T lk obj F' b c d K') := by
  unfold wpBuiltin
  repeat' split
  all_goals first | exact .inl | exact fun h => .inr ⟨h, fun _ _ h => h⟩ | skip
  all_goals
    intro h
    replace h := bif_true h
    rcases h with ⟨hb, h | h⟩
    · left; rw [hb]; exact .inl h
    · exact .inr ⟨h, fun F' K' h' => by rw [hb]; exact .inr h'⟩
theorem wpCall_path (c : Call) : wpCall H lk obj F c K → wpCall H lk obj (fun _ => False) c K ∨ (F K ∧ ∀ (F' : KOp → Prop) (K' : KOp), F' K' → wpCall H lk obj F' c K') := by
  unfold wpCall
  repeat' split
  all_goals first | exact fun h => .inr ⟨h, fun _ _ h => h⟩ | exact fun h => h.imp .inl fun h => ⟨h, fun _ _ h => .inr h⟩
theorem wpOp_path (op : Op) : wpOp H T lk obj F d op ty K → wpOp H T lk obj (fun _ => False) d op ty K ∨ (F K ∧ ∀ (F' : KOp → Prop) (K' : KOp), F' K' → wpOp H T lk obj F' d op ty K') := by
  cases op <;> simp only [wpOp]
  case call c => split <;> first | exact wpBuiltin_path _ _ | exact wpCall_path _
  case unOp o t x => cases o <;> simp only <;> (repeat' split) <;> first | exact .inl | exact fun h => .inr ⟨h, fun _ _ h => h⟩
  case makeFunc f x y => cases f <;> simp only <;> first | exact .inl | exact fun h => .inr ⟨h, fun _ _ h => h⟩
  case fieldAddr t x k =>
    split
    · split
      · split
        · rename_i i _
          cases hz : Nat.beq i.size 0 with
          | true => exact .inl
          | false =>
            simp only [cond_false]
            repeat' split
            all_goals first | exact .inl | exact fun h => .inr ⟨h, fun _ _ h => h⟩
        · exact .inl
      · exact .inl
    · exact .inl
  all_goals first | exact fun h => .inr ⟨h, fun _ _ h => h⟩ | exact .inl | skip
  all_goals (repeat' split)
  all_goals first | exact .inl | exact fun h => .inr ⟨h, fun _ _ h => h⟩

theorem isNone_eq {α : Type} {o : Option α} (h : o.isNone = true) : o = none := by cases o <;> simp_all
theorem x_imp (op : Op) (hX : wpX H T lk obj d op K) : wpO1 H T lk obj d op ty K := by
  unfold wpO1
  have h := hX
  cases op with
  | load t x =>
    simp only [wpX] at h
    split at h
    · rename_i i hti
      split at h
      · rename_i s g off hlx
        split at h
        · rename_i g' cs ho
          simp only [wpOp, hti, hlx, ho]; exact hX
        · exact h.elim
      · rename_i s g m off hlx
        simp only [wpOp, hti, hlx]; exact hX
      · exact h.elim
    · exact h.elim
  | store t x y =>
    simp only [wpX] at h
    split at h
    · rename_i i ys hti hys
      replace h := bif_true h; obtain ⟨_, h⟩ := h
      split at h
      · rename_i s g off hlx
        split at h
        · rename_i g' cs ho
          replace h := bif_true h; obtain ⟨hb, h⟩ := h
          simp only [Bool.and_eq_true] at hb
          simp only [wpOp, hti, hlx, isNone_eq hb.2]; exact hX
        · rename_i g' cs ho
          cases hc : asC (lk y) with
          | none => simp only [wpOp, hti, hlx, hc]; exact hX
          | some c => simp only [wpOp, hti, hlx, hc, ho]; exact hX
        · exact h.elim
      · rename_i s g m off hlx
        simp only [wpOp, hti, hlx]; exact hX
      · exact h.elim
    · exact h.elim
  | nilCheck x =>
    simp only [wpX] at h
    split at h
    · rename_i s g off hlx
      split at h
      · rename_i g' cs ho
        simp only [wpOp, hlx, ho]; exact hX
      · exact h.elim
    · rename_i s g m off hlx
      simp only [wpOp, hlx]; exact hX
    · exact h.elim
  | fieldAddr t x k =>
    simp only [wpX] at h
    split at h
    · rename_i fs _ _ _ _ _ hti
      split at h
      · rename_i f hf
        split at h
        · rename_i i hfi
          cases hz : Nat.beq i.size 0 with
          | true => rw [hz] at h; exact h.elim
          | false =>
            rw [hz] at h
            simp only [cond_false] at h
            split at h
            · rename_i s g off hlx
              split at h
              · rename_i g' cs ho
                simp only [wpOp, hti, hf, hfi, hz, cond_false, hlx, ho]; exact hX
              · exact h.elim
            · rename_i s g m off hlx
              simp only [wpOp, hti, hf, hfi, hz, cond_false, hlx]; exact hX
            · exact h.elim
        · exact h.elim
      · exact h.elim
    · exact h.elim
  | indexAddr t x i =>
    simp only [wpX] at h
    split at h
    · rename_i e _ _ _ _ _ hti
      split at h
      · rename_i ti s g kd m hte hlx hli
        simp only [wpOp, hti, hte, hlx, asSl]; exact hX
      · exact h.elim
    · exact h.elim
  | buildSlice t len ps =>
    simp only [wpX] at h
    split at h
    · rename_i e _ _ _ _ _ hti
      split at h
      · rename_i i d x hte hps
        split at h
        · rename_i cs hlx
          simp only [wpOp, hti, hte, hps, buildElems, hlx, asC]; exact hX
        · exact h.elim
      · exact h.elim
    · exact h.elim
  | call c =>
    obtain ⟨callee, args, argTypes⟩ := c
    cases callee with
    | value f =>
      simp only [wpX, wpXcall] at h
      split at h
      · rename_i f args more d hargs
        split at h
        · rename_i cs ts hfr
          simp only [wpOp, wpCall, hargs, hfr]; exact .inr hX
        · exact h.elim
      · exact h.elim
    | invoke r m =>
      simp only [wpX, wpXcall] at h
      split at h
      · rename_i f args more d hargs
        split at h
        · rename_i cs ts hfr
          simp only [wpOp, wpCall, hargs, hfr]; exact .inr hX
        · exact h.elim
      · exact h.elim
    | builtin b =>
      cases b with
      | len =>
        simp only [wpX] at h
        split at h
        · rename_i x e _ _ _ _ _ hargs hbt
          split at h
          · rename_i s g hlx
            simp only [wpOp, wpBuiltin, hargs, hlx, asSl]; exact hX
          · exact h.elim
        · exact h.elim
      | append =>
        simp only [wpX, wpXappend] at h
        split at h
        · rename_i x y d t1 t2 hargs htys
          split at h
          · rename_i e _ _ _ _ _ ht1
            split at h
            · rename_i i hte
              replace h := bif_true h; obtain ⟨hchk, h⟩ := h
              simp only [Bool.and_eq_true] at hchk
              obtain ⟨⟨⟨c1, c2⟩, c3⟩, c4⟩ := hchk
              split at h
              · rename_i hlx
                simp only [wpOp, wpBuiltin, hargs, hlx]; exact hX
              · rename_i t g s g2 hly hlx
                simp only [wpOp, wpBuiltin, hargs, hlx]; exact hX
              · rename_i t g hlx _
                simp only [wpOp, wpBuiltin, hargs, hlx]; exact hX
              · rename_i t g sz es hlx
                split at h
                · rename_i g' el s s2 ns ho hsl
                  replace h := bif_true h; obtain ⟨hchk, h⟩ := h
                  simp only [Bool.and_eq_true] at hchk
                  obtain ⟨⟨⟨⟨d1, d2⟩, d3⟩, d4⟩, d5⟩ := hchk
                  have e4 := Nat.eq_of_beq_eq_true d4
                  have e3 := Nat.eq_of_beq_eq_true d3
                  simp only [wpOp, wpBuiltin, hargs, hlx, hsl, htys, ht1, hte, ho]
                  have hall : (Nat.beq t1 t2 && Nat.beq i.size sz && Nat.ble 1 sz && Nat.ble i.bytes 4096 && Nat.beq i.zero.length sz && (Nat.beq g g' && Nat.beq el e && Nat.beq s sz)) = true := by
                    rw [c1, d1, d2, d3, e4, c2, c3, c4]; simp
                  rw [hall]
                  exact .inr hX
                · exact h.elim
              · exact h.elim
            · exact h.elim
          · exact h.elim
        · exact h.elim
      | _ => exact h.elim
  | _ => exact h.elim
theorem wpO0_two {op : Op} (h : wpO0 H T lk obj d op ty K) : wpO2 H T lk obj d op ty K := by
  rcases wpOp_split op h with h | h | h
  · exact .inl (wpOp_monoF (fun h => h.elim) op h)
  · exact .inl (x_imp op h)
  · exact .inr h
theorem wpO_two {op : Op} (h : wpO H T lk obj d op ty K) : wpO2 H T lk obj d op ty K := by
  unfold wpO at h
  cases hb : effFirst op with
  | true => rw [hb] at h; exact h.elim wpO0_two .inr
  | false => rw [hb] at h; exact wpO0_two h
end
end Go.Abs
