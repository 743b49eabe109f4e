/-
  The rules for slices that are written look at their operands and at the objects that they tell of; what they come to does not lean on what follows.
-/
import Derived.Test.YtmcolhhmlpicaaaDoorAbsLocal
namespace Go.Abs
open Go Go.RowKit

section
variable {H : Orc} {T : Tab} {lk lk' : Operand → SV} {obj obj' : Objs} {d : Option Nat} {ty : TypeId} {K : KOp}

theorem ren_local {d m : Nat} {obj obj' : Objs} (h : ∀ j, j < m → (obj' (sig d j)).1 = (obj (sig d j)).1) :
    renC obj' d m = renC obj d m ∧ renR obj' d m = renR obj d m ∧ ∀ (os : List (Nat × Nat × List (List CV) × Option (Nat × List CV))) (k : Nat), k + os.length ≤ m → renO obj' d m k os = renO obj d m k os := by
  have hj : ∀ j, Nat.blt j m = true → j < m := fun j hb => Nat.lt_of_succ_le (by simpa [Nat.blt] using hb)
  have h1 : renC obj' d m = renC obj d m := by
    funext c
    cases c with
    | ow j => simp only [renC]; cases hb : Nat.blt j m with | false => rfl | true => simp only [cond_true, h j (hj j hb)]
    | _ => rfl
  refine ⟨h1, ?_, ?_⟩
  · funext c
    cases c with
    | ow j => simp only [renR]; cases hb : Nat.blt j m with | false => rfl | true => simp only [cond_true, h j (hj j hb)]
    | agg cs => simp only [renR, h1]
    | _ => rfl
  · intro os
    induction os with
    | nil => intro k _; rfl
    | cons o r ih =>
      intro k hk
      obtain ⟨el, sz, ds, foc⟩ := o
      simp only [List.length_cons] at hk
      simp only [renO, h k (by omega), ih (k + 1) (by omega)]
      cases foc with
      | none => rfl
      | some p => obtain ⟨q, cs⟩ := p; simp only [renF, h1]
theorem renO_sites (obj : Objs) (d m : Nat) : ∀ (os : List (Nat × Nat × List (List CV) × Option (Nat × List CV))) (k j : Nat), j < os.length → sig d (k + j) ∈ (renO obj d m k os).map (·.1)
  | [], _, _, h => by simp at h
  | (el, sz, ds, foc) :: r, k, 0, _ => by simp [renO]
  | (el, sz, ds, foc) :: r, k, j + 1, h => by
    have := renO_sites obj d m r (k + 1) j (by simpa using h)
    rw [show k + 1 + j = k + (j + 1) from by omega] at this
    simp only [renO, List.map_cons, List.mem_cons]
    exact .inr this

/-- What an application of these rules comes to. -/
def XRes (H : Orc) (T : Tab) (lk : Operand → SV) (obj : Objs) (d : Option Nat) (op : Op) (r : SV) (rd : List Nat) (u : Upd) : Prop := ∀ K' : KOp, K' r rd u → wpX H T lk obj d op K'

theorem wpXappend_extract {c : Call} (h : wpXappend T lk obj c d K) : ∃ r rd u, (∀ K' : KOp, K' r rd u → wpXappend T lk obj c d K') ∧ K r rd u := by
  unfold wpXappend at h ⊢
  split at h
  · split at h
    · split at h
      · replace h := bif_true h; obtain ⟨hb, h⟩ := h
        simp only [hb, cond_true]
        split at h
        · split at h
          · obtain ⟨h1, h2, h3⟩ := h
            exact ⟨_, _, _, fun _ hk => ⟨h1, h2, hk⟩, h3⟩
          · exact h.elim
        · split at h
          · replace h := bif_true h; obtain ⟨hb2, h1, ds', h2, h3⟩ := h
            simp only [hb2, cond_true]
            exact ⟨_, _, _, fun _ hk => ⟨h1, ds', h2, hk⟩, h3⟩
          · exact h.elim
        · split at h
          · replace h := bif_true h; obtain ⟨hb2, h1, h2, ds', h3, h4⟩ := h
            simp only [hb2, cond_true]
            clear hb2
            generalize Nat.beq _ _ = q at h4 ⊢
            cases q with
            | true => exact ⟨_, _, _, fun _ hk => ⟨h1, h2, ds', h3, hk⟩, h4⟩
            | false => exact ⟨_, _, _, fun _ hk => ⟨h1, h2, ds', h3, hk⟩, h4⟩
          · exact h.elim
        · split at h
          · replace h := bif_true h; obtain ⟨hb2, h1, h2, h3, h4⟩ := h
            simp only [hb2, cond_true]
            exact ⟨_, _, _, fun _ hk => ⟨h1, h2, h3, hk⟩, h4⟩
          · exact h.elim
        · exact h.elim
      · exact h.elim
    · exact h.elim
  · exact h.elim

theorem wpX_extract {op : Op} (h : wpX H T lk obj d op K) : ∃ r rd u, (∀ K' : KOp, K' r rd u → wpX H T lk obj d op K') ∧ K r rd u := by
  cases op with
  | load t x =>
    simp only [wpX] at h ⊢
    split at h
    · split at h
      · split at h
        · replace h := bif_true h; obtain ⟨hb, h⟩ := h
          simp only [hb, cond_true]
          split at h
          · exact ⟨_, _, _, fun _ hk => hk, h⟩
          · exact h.elim
        · exact h.elim
      · split at h
        · replace h := bif_true h; obtain ⟨hb, cs, hcs, h⟩ := h
          simp only [hb, cond_true]
          split at h
          · rename_i c hp
            exact ⟨_, _, _, fun _ hk => ⟨cs, hcs, by rw [hp]; exact hk⟩, h⟩
          · exact h.elim
        · exact h.elim
      · exact h.elim
    · exact h.elim
  | store t x y =>
    simp only [wpX] at h ⊢
    split at h
    · replace h := bif_true h; obtain ⟨hb, h⟩ := h
      simp only [hb, cond_true]
      split at h
      · split at h
        · replace h := bif_true h; obtain ⟨hb, h⟩ := h
          simp only [hb, cond_true]
          split at h
          · exact ⟨_, _, _, fun _ hk => hk, h⟩
          · exact h.elim
        · replace h := bif_true h; obtain ⟨hb, h⟩ := h
          simp only [hb, cond_true]
          split at h
          · exact ⟨_, _, _, fun _ hk => hk, h⟩
          · exact h.elim
        · exact h.elim
      · split at h
        · replace h := bif_true h; obtain ⟨hb, cs, hcs, h⟩ := h
          simp only [hb, cond_true]
          split at h
          · rename_i cs' hset
            obtain ⟨ds', foc', hsc, h⟩ := h
            exact ⟨_, _, _, fun _ hk => ⟨cs, hcs, by rw [hset]; exact ⟨ds', foc', hsc, hk⟩⟩, h⟩
          · exact h.elim
        · exact h.elim
      · exact h.elim
    · exact h.elim
  | nilCheck x =>
    simp only [wpX] at h ⊢
    split at h
    · split at h
      · replace h := bif_true h
        exact ⟨_, _, _, fun _ hk => by rw [h.1]; exact hk, h.2⟩
      · exact h.elim
    · split at h
      · replace h := bif_true h
        exact ⟨_, _, _, fun _ hk => by rw [h.1]; exact hk, h.2⟩
      · exact h.elim
    · exact h.elim
  | fieldAddr t x k =>
    simp only [wpX] at h ⊢
    split at h
    · split at h
      · split at h
        · rename_i i _
          cases hz : Nat.beq i.size 0 with
          | true => rw [hz] at h; exact h.elim
          | false =>
            rw [hz] at h
            simp only [cond_false] at h ⊢
            split at h
            · split at h
              · replace h := bif_true h
                exact ⟨_, _, _, fun _ hk => by rw [h.1]; exact hk, h.2⟩
              · exact h.elim
            · split at h
              · replace h := bif_true h
                exact ⟨_, _, _, fun _ hk => by rw [h.1]; exact hk, h.2⟩
              · exact h.elim
            · exact h.elim
        · exact h.elim
      · exact h.elim
    · exact h.elim
  | indexAddr t x i =>
    simp only [wpX] at h ⊢
    split at h
    · split at h
      · split at h
        · replace h := bif_true h; obtain ⟨hb, h1, h2, h3⟩ := h
          simp only [hb, cond_true]
          exact ⟨_, _, _, fun _ hk => ⟨h1, h2, hk⟩, h3⟩
        · exact h.elim
      · exact h.elim
    · exact h.elim
  | buildSlice t len ps =>
    simp only [wpX] at h ⊢
    split at h
    · split at h
      · split at h
        · replace h := bif_true h
          exact ⟨_, _, _, fun _ hk => by rw [h.1]; exact hk, h.2⟩
        · exact h.elim
      · exact h.elim
    · exact h.elim
  | call c =>
    obtain ⟨callee, args, argTypes⟩ := c
    have hcall : ∀ c : Call, wpXcall H lk obj c d K → ∃ r rd u, (∀ K' : KOp, K' r rd u → wpXcall H lk obj c d K') ∧ K r rd u := by
      intro c h
      unfold wpXcall at h ⊢
      split at h
      · split at h
        · replace h := bif_true h; obtain ⟨hb, r, os, hh, h⟩ := h
          simp only [hb, cond_true]
          split at h
          · rename_i s hren
            exact ⟨_, _, _, fun _ hk => ⟨r, os, hh, by rw [hren]; exact hk⟩, h⟩
          · exact h.elim
        · exact h.elim
      · exact h.elim
    cases callee with
    | value f => simp only [wpX] at h ⊢; exact hcall _ h
    | invoke r m => simp only [wpX] at h ⊢; exact hcall _ h
    | builtin b =>
      cases b with
      | len =>
        simp only [wpX] at h ⊢
        split at h
        · split at h
          · split at h
            · replace h := bif_true h
              exact ⟨_, _, _, fun _ hk => by rw [h.1]; exact hk, h.2⟩
            · exact h.elim
          · exact h.elim
        · exact h.elim
      | append => exact wpXappend_extract h
      | _ => exact h.elim
  | _ => exact h.elim

theorem wpXappend_local {c : Call} (h : wpXappend T lk obj c d K) (hl : ∀ x ∈ c.args.toList, lk' x = lk x) (ho : ∀ r rd wr, K r rd wr → ∀ s, (s ∈ rd ∨ s ∈ wr.map (·.1)) → obj' s = obj s) : wpXappend T lk' obj' c d K := by
  unfold wpXappend at h ⊢
  split at h
  · rename_i x y d t1 t2 hargs htys
    rw [hl x (by rw [hargs]; simp), hl y (by rw [hargs]; simp)]
    split at h
    · rename_i e _ _ _ _ _ ht1
      split at h
      · rename_i i hte
        replace h := bif_true h; obtain ⟨hb, h⟩ := h
        try simp only [hargs, htys, ht1, hte]
        simp only [hb, cond_true]
        split at h
        · split at h
          · obtain ⟨h1, h2, h3⟩ := h
            have hod := ho _ _ _ h3 d (.inr (by simp))
            simp only [hod]
            exact ⟨h1, h2, h3⟩
          · exact h.elim
        · rename_i t g s g2 _ _
          split at h
          · rename_i hob1 hob2
            replace h := bif_true h; obtain ⟨hb2, h1, ds', h2, h3⟩ := h
            have ht := ho _ _ _ h3 t (.inl (by simp))
            have hs := ho _ _ _ h3 s (.inl (by simp))
            have hod := ho _ _ _ h3 d (.inr (by simp))
            simp only [ht, hs, hob1, hob2, hod, hb2, cond_true]
            exact ⟨h1, ds', h2, h3⟩
          · exact h.elim
        · rename_i t g _ _
          split at h
          · rename_i hob1 hsl
            replace h := bif_true h; obtain ⟨hb2, h1, h2, ds', h3, h4⟩ := h
            have ht : obj' t = obj t := by
              cases htd : Nat.beq t d with
              | true => rw [htd] at h4; exact ho _ _ _ h4 t (.inl (by simp))
              | false => rw [htd] at h4; exact ho _ _ _ h4 t (.inl (by simp))
            simp only [ht, hob1, hsl, hb2, cond_true]
            refine ⟨h1, h2, ds', h3, ?_⟩
            cases htd : Nat.beq t d with
            | true => rw [htd] at h4; exact h4
            | false =>
              rw [htd] at h4
              simp only [cond_false] at h4 ⊢
              rw [ho _ _ _ h4 d (.inr (by simp))]
              exact h4
          · exact h.elim
        · rename_i t g sz es _
          split at h
          · rename_i hob1 hsl
            replace h := bif_true h; obtain ⟨hb2, h1, h2, h3, h4⟩ := h
            have ht := ho _ _ _ h4 t (.inl (by simp))
            have hod := ho _ _ _ h4 d (.inr (by simp))
            simp only [ht, hob1, hsl, hod, hb2, cond_true]
            exact ⟨h1, h2, h3, h4⟩
          · exact h.elim
        · exact h.elim
      · exact h.elim
    · exact h.elim
  · exact h.elim

theorem wpXcall_local {c : Call} (h : wpXcall H lk obj c d K) (hl : ∀ x ∈ c.operands, lk' x = lk x) (ho : ∀ r rd wr, K r rd wr → ∀ s, (s ∈ rd ∨ s ∈ wr.map (·.1)) → obj' s = obj s) : wpXcall H lk' obj' c d K := by
  have hc : callArgs lk' c = callArgs lk c := by
    unfold callArgs
    have hargs : c.args.toList.map lk' = c.args.toList.map lk := List.map_congr_left fun x hx => hl x (by simp [Call.operands]; right; simpa using hx)
    cases hcc : c.callee with
    | value f =>
      have hf : lk' f = lk f := hl f (by simp [Call.operands, hcc])
      simp only [hf, hargs]
    | invoke r m => rfl
    | builtin b => rfl
  unfold wpXcall at h ⊢
  rw [hc]
  split at h
  · rename_i f args more d h1
    try simp only [h1]
    split at h
    · rename_i cs ts h2
      replace h := bif_true h; obtain ⟨hb, r, os, hh, h⟩ := h
      have htn : ts = [] := by simpa using hb
      subst htn
      rw [freezeAs_local _ _ _ h2 (fun t ht => by simp at ht)]
      simp only [hb, cond_true]
      refine ⟨r, os, hh, ?_⟩
      split at h
      · rename_i s hren
        have hs : ∀ j, j < os.length → (obj' (sig d j)).1 = (obj (sig d j)).1 := fun j hj => by
          have := renO_sites obj d os.length os 0 j hj
          rw [Nat.zero_add] at this
          rw [ho _ _ _ h _ (.inr this)]
        obtain ⟨_, e1, e2⟩ := ren_local hs
        rw [e1, hren, e2 os 0 (by omega)]
        exact h
      · exact h.elim
    · exact h.elim
  · exact h.elim

theorem wpX_local {op : Op} (h : wpX H T lk obj d op K) (hl : ∀ x ∈ op.operands, lk' x = lk x) (ho : ∀ r rd wr, K r rd wr → ∀ s, (s ∈ rd ∨ s ∈ wr.map (·.1)) → obj' s = obj s) : wpX H T lk' obj' d op K := by
  cases op with
  | load t x =>
    simp only [wpX] at h ⊢
    rw [hl x (by simp [Op.operands])]
    split at h
    · rename_i i h1
      try simp only
      split at h
      · rename_i s g off h2
        try simp only
        split at h
        · rename_i g' cs h3
          replace h := bif_true h; obtain ⟨hb, h⟩ := h
          split at h
          · rename_i c h4
            rw [ho _ _ _ h s (.inl (by simp)), h3]
            simp only [hb, h4, cond_true]
            exact h
          · exact h.elim
        · exact h.elim
      · rename_i s g m off h2
        try simp only
        split at h
        · rename_i g' el sz ds foc h3
          replace h := bif_true h; obtain ⟨hb, cs, hcs, h⟩ := h
          split at h
          · rename_i c h4
            rw [ho _ _ _ h s (.inl (by simp)), h3]
            simp only [hb, cond_true]
            refine ⟨cs, hcs, ?_⟩
            rw [h4]
            exact h
          · exact h.elim
        · exact h.elim
      · exact h.elim
    · exact h.elim
  | store t x y =>
    simp only [wpX] at h ⊢
    rw [hl x (by simp [Op.operands]), hl y (by simp [Op.operands])]
    split at h
    · rename_i i ys h1 h2
      replace h := bif_true h; obtain ⟨hb, h⟩ := h
      try simp only [h1, h2]
      simp only [hb, cond_true]
      split at h
      · rename_i s g off h3
        try simp only
        split at h
        · rename_i g' cs h4
          replace h := bif_true h; obtain ⟨hb, h⟩ := h
          split at h
          · rename_i cs' h5
            rw [ho _ _ _ h s (.inl (by simp)), h4]
            simp only [hb, h5, cond_true]
            exact h
          · exact h.elim
        · rename_i g' cs h4
          replace h := bif_true h; obtain ⟨hb, h⟩ := h
          split at h
          · rename_i cs' h5
            rw [ho _ _ _ h s (.inl (by simp)), h4]
            simp only [hb, h5, cond_true]
            exact h
          · exact h.elim
        · exact h.elim
      · rename_i s g m off h3
        try simp only
        split at h
        · rename_i g' el sz ds foc h4
          replace h := bif_true h; obtain ⟨hb, cs, hcs, h⟩ := h
          split at h
          · rename_i cs' h5
            obtain ⟨ds', foc', hsc, h⟩ := h
            rw [ho _ _ _ h s (.inl (by simp)), h4]
            simp only [hb, cond_true]
            refine ⟨cs, hcs, ?_⟩
            rw [h5]
            exact ⟨ds', foc', hsc, h⟩
          · exact h.elim
        · exact h.elim
      · exact h.elim
    · exact h.elim
  | nilCheck x =>
    simp only [wpX] at h ⊢
    rw [hl x (by simp [Op.operands])]
    split at h
    · rename_i s g off h2
      try simp only
      split at h
      · rename_i g' cs h3
        replace h := bif_true h
        rw [ho _ _ _ h.2 s (.inl (by simp)), h3]
        simp only [h.1, cond_true]
        exact h.2
      · exact h.elim
    · rename_i s g m off h2
      try simp only
      split at h
      · rename_i g' el sz ds foc h3
        replace h := bif_true h
        rw [ho _ _ _ h.2 s (.inl (by simp)), h3]
        simp only [h.1, cond_true]
        exact h.2
      · exact h.elim
    · exact h.elim
  | fieldAddr t x k =>
    simp only [wpX] at h ⊢
    rw [hl x (by simp [Op.operands])]
    split at h
    · rename_i fs _ _ _ _ _ h1
      try simp only
      split at h
      · rename_i f h2
        try simp only
        split at h
        · rename_i i h3
          try simp only
          cases hz : Nat.beq i.size 0 with
          | true => rw [hz] at h; exact h.elim
          | false =>
            rw [hz] at h
            simp only [cond_false] at h ⊢
            split at h
            · rename_i s g off h4
              try simp only
              split at h
              · rename_i g' cs h5
                replace h := bif_true h
                rw [ho _ _ _ h.2 s (.inl (by simp)), h5]
                simp only [h.1, cond_true]
                exact h.2
              · exact h.elim
            · rename_i s g m off h4
              try simp only
              split at h
              · rename_i g' el sz ds foc h5
                replace h := bif_true h
                rw [ho _ _ _ h.2 s (.inl (by simp)), h5]
                simp only [h.1, cond_true]
                exact h.2
              · exact h.elim
            · exact h.elim
        · exact h.elim
      · exact h.elim
    · exact h.elim
  | indexAddr t x i =>
    simp only [wpX] at h ⊢
    rw [hl x (by simp [Op.operands]), hl i (by simp [Op.operands])]
    split at h
    · rename_i e _ _ _ _ _ h1
      try simp only
      split at h
      · rename_i ti s g kd m h2 h3 h4
        try simp only [h2, h3, h4]
        split at h
        · rename_i g' el sz ds foc h5
          replace h := bif_true h; obtain ⟨hb, q1, q2, q3⟩ := h
          rw [ho _ _ _ q3 s (.inl (by simp)), h5]
          simp only [hb, cond_true]
          exact ⟨q1, q2, q3⟩
        · exact h.elim
      · exact h.elim
    · exact h.elim
  | buildSlice t len ps =>
    simp only [wpX] at h ⊢
    split at h
    · rename_i e _ _ _ _ _ h1
      split at h
      · rename_i i d x h2 h3
        have hx : lk' x = lk x := hl x (by
          simp only [Op.operands, List.mem_toArray, List.mem_map]; exact ⟨(0, x), by rw [h3]; simp, rfl⟩)
        try simp only [h1, h2, h3]
        rw [hx]
        split at h
        · replace h := bif_true h; obtain ⟨hb, h⟩ := h
          rw [hb, ho _ _ _ h d (.inr (by simp))]
          exact h
        · exact h.elim
      · exact h.elim
    · exact h.elim
  | call c =>
    obtain ⟨callee, args, argTypes⟩ := c
    simp only [Op.operands] at hl
    cases callee with
    | value f => simp only [wpX] at h ⊢; exact wpXcall_local h hl ho
    | invoke r m => simp only [wpX] at h ⊢; exact wpXcall_local h hl ho
    | builtin b =>
      cases b with
      | len =>
        simp only [wpX] at h ⊢
        split at h
        · rename_i x e _ _ _ _ _ h1 h2
          have hx : lk' x = lk x := hl x (by simp [Call.operands]; rw [← Array.mem_toList_iff, h1]; simp)
          try simp only [h1, h2]
          rw [hx]
          split at h
          · rename_i s g h3
            split at h
            · rename_i g' el sz ds foc h4
              replace h := bif_true h
              rw [ho _ _ _ h.2 s (.inl (by simp)), h4]
              simp only [h.1, cond_true]
              exact h.2
            · exact h.elim
          · exact h.elim
        · exact h.elim
      | append => exact wpXappend_local h (fun x hx => hl x (by simp [Call.operands]; simpa using hx)) ho
      | _ => exact h.elim
  | _ => exact h.elim

theorem wpO1_local {op : Op} (h : wpO1 H T lk obj d op ty K) (hl : ∀ x ∈ op.operands, lk' x = lk x) (ho : ∀ r rd wr, K r rd wr → ∀ s, (s ∈ rd ∨ s ∈ wr.map (·.1)) → obj' s = obj s) : wpO1 H T lk' obj' d op ty K := by
  rcases wpOp_split op h with h | h
  · exact wpOp_monoF (fun h => h.elim) op (wpOp_local h hl ho)
  · exact x_imp op (wpX_local h hl ho)
theorem osTo_local {τ : List (Nat × Nat)} {γ : Nat → Nat} : ∀ (l : List (Nat × Nat)) (k : Nat), (∀ p ∈ l, obj' p.1 = obj p.1) → osTo τ γ obj' k l = osTo τ γ obj k l
  | [], _, _ => rfl
  | (t, g) :: r, k, h => by
    have h0 : obj' t = obj t := h (t, g) (by simp)
    simp only [osTo, h0, osTo_local r (k + 1) fun p hp => h p (List.mem_cons_of_mem _ hp)]
theorem bkG_local {d off : Nat} {τ : List (Nat × Nat)} {j : Nat} (h : obj' (bkS d off τ j) = obj (bkS d off τ j)) (k : Nat) : bkG obj' d off τ j k = bkG obj d off τ j k := by
  unfold bkG
  unfold bkS at h
  split
  · rfl
  · rename_i he; rw [he] at h; simp only at h; rw [h]
theorem map_eq {α β : Type} {f g : α → β} {p : α → Bool} {l : List α} (hl : l.all p = true) (hfg : ∀ x, p x = true → f x = g x) : l.map f = l.map g := by
  rw [List.map_inj_left]
  exact fun x hx => hfg x (List.all_eq_true.1 hl x hx)
section
variable {d off : Nat} {τ : List (Nat × Nat)} {m : Nat} (h : ∀ j, j < m → obj' (bkS d off τ j) = obj (bkS d off τ j))
include h
theorem cBk1_local {c : CV} (hc : cLt1 m c = true) : cBk1 obj' d off τ c = cBk1 obj d off τ c := by
  cases c <;> first | rfl | (simp only [cBk1]; rw [bkG_local (h _ (blt_lt hc))])
theorem cBk_local {c : CV} (hc : cLt m c = true) : cBk obj' d off τ c = cBk obj d off τ c := by
  by_cases hf : ∃ f caps, c = .fr f caps
  · obtain ⟨f, caps, rfl⟩ := hf
    simp only [cBk]; rw [map_eq (p := cLt1 m) hc fun x hx => cBk1_local h hx]
  · have e1 : cLt m c = cLt1 m c := by cases c <;> first | rfl | exact absurd ⟨_, _, rfl⟩ hf
    have e2 : ∀ o, cBk o d off τ c = cBk1 o d off τ c := fun o => by cases c <;> first | rfl | exact absurd ⟨_, _, rfl⟩ hf
    rw [e1] at hc
    rw [e2, e2]
    exact cBk1_local h hc
theorem sBk1_local {s : SV} (hc : sLt1 m s = true) : sBk1 obj' d off τ s = sBk1 obj d off τ s := by
  cases s with
  | agx cs => simp only [sBk1]; rw [map_eq (p := cLt m) hc fun x hx => cBk_local h hx]
  | rs j k => simp only [sBk1]; rw [bkG_local (h _ (blt_lt hc))]
  | pm j k o => simp only [sBk1]; rw [bkG_local (h _ (blt_lt hc))]
  | mr j k => simp only [sBk1]; rw [bkG_local (h _ (blt_lt hc))]
  | pe j k n o => simp only [sBk1]; rw [bkG_local (h _ (blt_lt hc))]
  | ap j k sz es => simp only [sBk1]; rw [bkG_local (h _ (blt_lt hc))]
  | _ => rfl
theorem sBk_local {s : SV} (hc : sLt m s = true) : sBk obj' d off τ s = sBk obj d off τ s := by
  by_cases hf : ∃ f caps, s = .fnr f caps
  · obtain ⟨f, caps, rfl⟩ := hf
    simp only [sBk]; rw [map_eq (p := sLt1 m) hc fun x hx => sBk1_local h hx]
  · have e1 : sLt m s = sLt1 m s := by cases s <;> first | rfl | exact absurd ⟨_, _, rfl⟩ hf
    have e2 : ∀ o, sBk o d off τ s = sBk1 o d off τ s := fun o => by cases s <;> first | rfl | exact absurd ⟨_, _, rfl⟩ hf
    rw [e1] at hc
    rw [e2, e2]
    exact sBk1_local h hc
theorem oBk_local {o : AObj} (hc : oLt m o = true) : oBk obj' d off τ o = oBk obj d off τ o := by
  cases o with
  | varx cs => simp only [oBk]; rw [map_eq (p := cLt m) hc fun x hx => cBk_local h hx]
  | arr el sz ds foc =>
    cases foc with
    | none => rfl
    | some p => obtain ⟨k, cs⟩ := p; simp only [oBk]; rw [map_eq (p := cLt m) hc fun x hx => cBk_local h hx]
  | _ => rfl
theorem uBk_local : ∀ (os : List (Nat × AObj)) (k : Nat), k + os.length ≤ m → os.all (fun o => oLt m o.2) = true → uBk obj' d off τ k os = uBk obj d off τ k os
  | [], _, _, _ => rfl
  | (g, o) :: r, k, hk, ha => by
    simp only [List.all_cons, Bool.and_eq_true] at ha
    simp only [List.length_cons] at hk
    simp only [uBk]
    rw [bkG_local (h k (by omega)), oBk_local h ha.1, uBk_local r (k + 1) (by omega) ha.2]
end
theorem uBk_names {obj1 obj2 : Objs} {d off : Nat} {τ : List (Nat × Nat)} : ∀ (os : List (Nat × AObj)) (k : Nat), (uBk obj1 d off τ k os).map (·.1) = (uBk obj2 d off τ k os).map (·.1)
  | [], _ => rfl
  | (_, _) :: r, k => by simp only [uBk, List.map_cons]; rw [uBk_names r (k + 1)]
theorem wpEff_local {op : Op} (h : wpEff H lk obj d op ty K) (hl : ∀ x ∈ op.operands, lk' x = lk x) (ho : ∀ r rd wr, K r rd wr → ∀ s, (s ∈ rd ∨ s ∈ wr.map (·.1)) → obj' s = obj s) : wpEff H lk' obj' d op ty K := by
  obtain ⟨τ, off, args, os, r, os', h1, h2, h3, h4, h5⟩ := h
  have h4' := h4
  simp only [Bool.and_eq_true] at h4'
  have hs := ho _ _ _ h5
  have hbk : ∀ j, j < os'.length → obj' (bkS (d.getD 0) off τ j) = obj (bkS (d.getD 0) off τ j) := fun j hj => by
    refine hs _ (.inr ?_)
    have := uBk_sites (obj := obj) (d := d.getD 0) (off := off) (τ := τ) os' 0 j hj
    rw [Nat.zero_add] at this
    exact List.mem_of_getElem? this
  refine ⟨τ, off, args, os, r, os', ?_, ?_, h3, ?_, ?_⟩
  · rw [← h1]
    congr 1
    rw [List.map_inj_left]
    exact fun x hx => hl x (by simpa using hx)
  · rw [← h2]
    exact osTo_local τ 0 fun p hp => hs p.1 (.inl (List.mem_map.2 ⟨p, hp, rfl⟩))
  · rw [uBk_names (obj2 := obj) os' 0]; exact h4
  · rw [uBk_local (m := os'.length) hbk os' 0 (by omega) h4'.2, sBk_local (m := os'.length) hbk h4'.1.2]; exact h5
theorem wpO2_local {op : Op} (h : wpO2 H T lk obj d op ty K) (hl : ∀ x ∈ op.operands, lk' x = lk x) (ho : ∀ r rd wr, K r rd wr → ∀ s, (s ∈ rd ∨ s ∈ wr.map (·.1)) → obj' s = obj s) : wpO2 H T lk' obj' d op ty K :=
  h.imp (fun h => wpO1_local h hl ho) (fun h => wpEff_local h hl ho)
end
end Go.Abs
