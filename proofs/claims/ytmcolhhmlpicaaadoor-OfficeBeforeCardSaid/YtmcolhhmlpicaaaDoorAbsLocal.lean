/-
  An abstract operation looks at its operands and at the objects that it tells of, and at nothing else.
-/
import Derived.Test.YtmcolhhmlpicaaaDoorAbsXF
namespace Go.Abs
open Go Go.RowKit

section
variable {H : Orc} {T : Tab} {lk lk' : Operand → SV} {obj obj' : Objs} {d : Option Nat} {ty : TypeId} {K : KOp}

theorem frzC1_local {c c' : CV} {ts : List Nat} (h : frzC1 obj c = some (c', ts)) (ho : ∀ t ∈ ts, obj' t = obj t) : frzC1 obj' c = some (c', ts) := by
  unfold frzC1 at h ⊢
  split at h
  · rename_i t g
    try simp only at h ⊢
    split at h
    · rename_i g' el sz ds hob
      cases hb : Nat.beq g g' with
      | false => rw [hb] at h; simp at h
      | true =>
        rw [hb] at h
        simp at h
        rw [ho t (by rw [← h.2]; simp), hob]
        simp only [hb, cond_true]
        rw [← h.1, ← h.2]
    · simp at h
  · rename_i t g
    try simp only at h ⊢
    split at h
    · rename_i g' es hob
      cases hb : Nat.beq g g' with
      | false => rw [hb] at h; simp at h
      | true =>
        rw [hb] at h
        simp at h
        rw [ho t (by rw [← h.2]; simp), hob]
        simp only [hb, cond_true]
        rw [← h.1, ← h.2]
    · simp at h
  · simp at h
  · simp at h
  · exact h
theorem frzCs_local : ∀ {cs cs' : List CV} {ts : List Nat}, frzCs obj cs = some (cs', ts) → (∀ t ∈ ts, obj' t = obj t) → frzCs obj' cs = some (cs', ts)
  | [], cs', ts, h, _ => h
  | c :: r, cs', ts, h, ho => by
    simp only [frzCs] at h ⊢
    split at h
    · rename_i d t1 ds t2 h1 h2
      simp at h
      obtain ⟨rfl, rfl⟩ := h
      rw [frzC1_local h1 fun t ht => ho t (List.mem_append_left _ ht), frzCs_local h2 fun t ht => ho t (List.mem_append_right _ ht)]
    · simp at h
theorem freeze_local {s : SV} {c : CV} {ts : List Nat} (h : freeze obj s = some (c, ts)) (ho : ∀ t ∈ ts, obj' t = obj t) : freeze obj' s = some (c, ts) := by
  unfold freeze at h ⊢
  split at h
  · rename_i t g off
    try simp only at h ⊢
    split at h
    · rename_i g' cs hob
      cases hb : Nat.beq g g' with
      | false => rw [hb] at h; simp at h
      | true =>
        rw [hb] at h
        simp at h
        rw [ho t (by rw [← h.2]; simp), hob]
        simp only [hb, cond_true]
        rw [← h.1, ← h.2]
    · rename_i g' cs hob
      cases hb : Nat.beq g g' with
      | false => rw [hb] at h; simp at h
      | true =>
        rw [hb] at h
        simp only [cond_true] at h
        split at h
        · rename_i cs' us hq
          simp at h
          rw [ho t (by rw [← h.2]; simp), hob]
          simp only [hb, cond_true]
          rw [frzCs_local hq fun t ht => ho t (by rw [← h.2]; exact List.mem_cons_of_mem _ ht)]
          rw [← h.1, ← h.2]
        · simp at h
    · simp at h
  · rename_i t g
    try simp only at h ⊢
    split at h
    · rename_i g' es hob
      cases hb : Nat.beq g g' with
      | false => rw [hb] at h; simp at h
      | true =>
        rw [hb] at h
        simp at h
        rw [ho t (by rw [← h.2]; simp), hob]
        simp only [hb, cond_true]
        rw [← h.1, ← h.2]
    · simp at h
  · rename_i t g
    try simp only at h ⊢
    split at h
    · rename_i g' el sz ds hob
      cases hb : Nat.beq g g' with
      | false => rw [hb] at h; simp at h
      | true =>
        rw [hb] at h
        simp at h
        rw [ho t (by rw [← h.2]; simp), hob]
        simp only [hb, cond_true]
        rw [← h.1, ← h.2]
    · simp at h
  · exact h
theorem freezeL_local : ∀ (ss : List SV) (cs : List CV) (ts : List Nat), freezeL obj ss = some (cs, ts) → (∀ t ∈ ts, obj' t = obj t) → freezeL obj' ss = some (cs, ts)
  | [], cs, ts, h, _ => h
  | s :: ss, cs, ts, h, ho => by
    simp only [freezeL] at h ⊢
    split at h
    · rename_i c t1 cs' t2 h1 h2
      simp at h
      obtain ⟨rfl, rfl⟩ := h
      rw [freeze_local h1 (fun t ht => ho t (List.mem_append_left _ ht)), freezeL_local ss cs' t2 h2 (fun t ht => ho t (List.mem_append_right _ ht))]
    · simp at h
theorem freezeA_local {s : SV} {c : CV} {ts : List Nat} (h : freezeA obj s = some (c, ts)) (ho : ∀ t ∈ ts, obj' t = obj t) : freezeA obj' s = some (c, ts) := by
  unfold freezeA at h ⊢
  split at h
  · rename_i f caps
    try simp only at h ⊢
    split at h
    · rename_i cs ts' hl
      simp at h
      obtain ⟨rfl, rfl⟩ := h
      rw [freezeL_local _ _ _ hl ho]
    · simp at h
  · exact freeze_local h ho
theorem freezeAs_local : ∀ (ss : List SV) (cs : List CV) (ts : List Nat), freezeAs obj ss = some (cs, ts) → (∀ t ∈ ts, obj' t = obj t) → freezeAs obj' ss = some (cs, ts)
  | [], cs, ts, h, _ => h
  | s :: ss, cs, ts, h, ho => by
    simp only [freezeAs] at h ⊢
    split at h
    · rename_i c t1 cs' t2 h1 h2
      simp at h
      obtain ⟨rfl, rfl⟩ := h
      rw [freezeA_local h1 (fun t ht => ho t (List.mem_append_left _ ht)), freezeAs_local ss cs' t2 h2 (fun t ht => ho t (List.mem_append_right _ ht))]
    · simp at h
theorem buildParts_local (fs : Array Field) : ∀ (ps : List (Nat × Operand)) (z : List CV), (∀ p ∈ ps, lk' p.2 = lk p.2) → buildParts T lk' fs z ps = buildParts T lk fs z ps
  | [], _, _ => rfl
  | (i, x) :: r, z, h => by
    simp only [buildParts]
    rw [h (i, x) (by simp)]
    have := fun z => buildParts_local fs r z (fun p hp => h p (by simp [hp]))
    simp only [this]
theorem buildElems_local (sz : Nat) : ∀ (ps : List (Nat × Operand)) (k : Nat), (∀ p ∈ ps, lk' p.2 = lk p.2) → buildElems lk' sz k ps = buildElems lk sz k ps
  | [], _, _ => rfl
  | (i, x) :: r, k, h => by
    simp only [buildElems]
    rw [h (i, x) (by simp), buildElems_local sz r (k + 1) (fun p hp => h p (by simp [hp]))]

theorem wpAssign_local {d : Nat} {x : Operand} (h : wpAssign T lk obj ty d x K) (hl : lk' x = lk x) (ho : ∀ r rd wr, K r rd wr → ∀ s, (s ∈ rd ∨ s ∈ wr.map (·.1)) → obj' s = obj s) : wpAssign T lk' obj' ty d x K := by
  unfold wpAssign at h ⊢
  split at h
  · split at h
    · split at h
      · rename_i i h2
        replace h := bif_true h
        have hod := ho _ _ _ h.2 d (.inr (by simp))
        simp only [hod, h.1, cond_true]
        exact h.2
      · exact h.elim
    · exact h.elim
  · rw [hl]
    cases hs : lk x with
    | ap t g sz es =>
      simp only [hs] at h ⊢
      cases hob : obj t with
      | mk g' o =>
        simp only [hob] at h
        cases o with
        | tok el s =>
          simp only at h
          cases hb : (Nat.beq g g' && !(Nat.beq t d)) with
          | true =>
            rw [hb] at h
            simp only [cond_true] at h
            have h1 := ho _ _ _ h t (.inl (by simp))
            have h2 := ho _ _ _ h d (.inr (by simp))
            simp only [h1, hob, hb, h2, cond_true]
            exact h
          | false =>
            rw [hb] at h
            simp only [cond_false] at h
            have h1 := ho _ _ _ h t (.inl (by simp))
            simp only [h1, hob, hb, cond_false]
            exact h
        | none => have h1 := ho _ _ _ h t (.inl (by simp)); simp only [h1, hob]; exact h
        | spent => have h1 := ho _ _ _ h t (.inl (by simp)); simp only [h1, hob]; exact h
        | var cs => have h1 := ho _ _ _ h t (.inl (by simp)); simp only [h1, hob]; exact h
        | ro cs => have h1 := ho _ _ _ h t (.inl (by simp)); simp only [h1, hob]; exact h
        | varx cs => have h1 := ho _ _ _ h t (.inl (by simp)); simp only [h1, hob]; exact h
        | arr el sz ds foc => have h1 := ho _ _ _ h t (.inl (by simp)); simp only [h1, hob]; exact h
        | map es => have h1 := ho _ _ _ h t (.inl (by simp)); simp only [h1, hob]; exact h
    | _ => simp only [hs] at h ⊢; exact h

theorem wpBuiltin_local {b : Builtin} {c : Call} (h : wpBuiltin T lk obj (fun _ => False) b c d K) (hl : ∀ x ∈ c.args.toList, lk' x = lk x) (ho : ∀ r rd wr, K r rd wr → ∀ s, (s ∈ rd ∨ s ∈ wr.map (·.1)) → obj' s = obj s) : wpBuiltin T lk' obj' (fun _ => False) b c d K := by
  unfold wpBuiltin at h ⊢
  split at h
  · rename_i x hx
    try simp only [hx] at h ⊢
    rw [hl x (by rw [hx]; simp)]
    exact h
  · rename_i x y hx
    try simp only [hx] at h ⊢
    rw [hl x (by rw [hx]; simp), hl y (by rw [hx]; simp)]
    exact h
  · rename_i x y hx
    try simp only [hx] at h ⊢
    rw [hl x (by rw [hx]; simp), hl y (by rw [hx]; simp)]
    exact h
  · rename_i x y hx
    try simp only [hx] at h ⊢
    rw [hl x (by rw [hx]; simp), hl y (by rw [hx]; simp)]
    split at h
    · rename_i t g sz es s2 ns d' t1 t2 h1 h2 h4
      try simp only [h1, h2, h4]
      split at h
      · rename_i e _ _ _ _ _ h5
        split at h
        · rename_i i h6
          try simp only [h5, h6]
          replace h := bif_true h
          obtain ⟨hb, h | h⟩ := h
          rotate_left
          · exact h.elim
          obtain ⟨hns, hlen, es', he', h⟩ := h
          have hot : obj' t = obj t := by
            cases htd : Nat.beq t d' with
            | true => rw [htd] at h; exact ho _ _ _ h t (.inl (by simp))
            | false => rw [htd] at h; exact ho _ _ _ h t (.inl (by simp))
          rw [hot]
          rw [hb]
          refine .inl ⟨hns, hlen, es', he', ?_⟩
          cases htd : Nat.beq t d' with
          | true => rw [htd] at h; exact h
          | false =>
            rw [htd] at h
            simp only [cond_false] at h ⊢
            rw [ho _ _ _ h d' (.inr (by simp))]
            exact h
        · exact h.elim
      · exact h.elim
    · exact h.elim
  · exact h.elim

theorem wpCall_local {c : Call} (h : wpCall H lk obj (fun _ => False) c K) (hl : ∀ x ∈ c.operands, lk' x = lk x) (ho : ∀ r rd wr, K r rd wr → ∀ s, (s ∈ rd ∨ s ∈ wr.map (·.1)) → obj' s = obj s) : wpCall H lk' obj' (fun _ => False) c K := by
  have hc : callArgs lk' c = callArgs lk c := by
    unfold callArgs
    have hargs : c.args.toList.map lk' = c.args.toList.map lk := List.map_congr_left fun x hx => hl x (by simp [Call.operands]; right; simpa using hx)
    cases hcc : c.callee with
    | value f =>
      have hf : lk' f = lk f := hl f (by simp [Call.operands, hcc])
      simp only [hf, hargs]
    | invoke r m => rfl
    | builtin b => rfl
  unfold wpCall at h ⊢
  rw [hc]
  split at h
  · rename_i f args more h1
    try simp only [h1]
    split at h
    · rename_i cs ts h2
      obtain h | h := h
      rotate_left
      · exact h.elim
      obtain ⟨r, hr, hts, hk⟩ := h
      try rw [freezeAs_local _ _ _ h2 (fun t ht => ho _ _ _ hk t (.inl ht))]
      exact .inl ⟨r, hr, hts, hk⟩
    · exact h.elim
  · exact h.elim

theorem wpOp_local {op : Op} (h : wpOp H T lk obj (fun _ => False) d op ty K) (hl : ∀ x ∈ op.operands, lk' x = lk x) (ho : ∀ r rd wr, K r rd wr → ∀ s, (s ∈ rd ∨ s ∈ wr.map (·.1)) → obj' s = obj s) : wpOp H T lk' obj' (fun _ => False) d op ty K := by
  cases op with
  | move x =>
    simp only [wpOp] at h ⊢
    rw [hl x (by simp [Op.operands])]; exact h
  | assign x =>
    simp only [wpOp] at h ⊢
    split at h
    · exact wpAssign_local h (hl x (by simp [Op.operands])) ho
    · exact h
  | pick c x y =>
    simp only [wpOp] at h ⊢
    rw [hl c (by simp [Op.operands]), hl x (by simp [Op.operands]), hl y (by simp [Op.operands])]; exact h
  | alloc e =>
    simp only [wpOp] at h ⊢
    split at h
    · rename_i i d' h1
      try rw [h1]
      try simp only
      rw [ho _ _ _ h d' (.inr (by simp))]
      exact h
    · exact h.elim
  | box e x =>
    simp only [wpOp] at h ⊢
    rw [hl x (by simp [Op.operands])]
    split at h
    · rename_i c d' h1
      try rw [h1]
      try simp only
      replace h := bif_true h
      rw [ho _ _ _ h.2 d' (.inr (by simp)), h.1]
      exact h.2
    · exact h.elim
  | build t ps =>
    simp only [wpOp] at h ⊢
    have : ∀ fs z, buildParts T lk' fs z ps.toList = buildParts T lk fs z ps.toList := fun fs z => buildParts_local fs _ z fun p hp => hl p.2 (by
      simp only [Op.operands, List.mem_toArray, List.mem_map]; exact ⟨p, hp, rfl⟩)
    simp only [this]
    exact h
  | buildSlice t len ps =>
    simp only [wpOp] at h ⊢
    have : ∀ sz, buildElems lk' sz 0 ps.toList = buildElems lk sz 0 ps.toList := fun sz => buildElems_local sz _ 0 fun p hp => hl p.2 (by
      simp only [Op.operands, List.mem_toArray, List.mem_map]; exact ⟨p, hp, rfl⟩)
    simp only [this]
    split at h
    · rename_i e _ _ _ _ _ h1
      split at h
      · rename_i i d' h2
        split at h
        · rename_i es h3
          try rw [h2]
          try simp only [h3]
          replace h := bif_true h
          rw [ho _ _ _ h.2 d' (.inr (by simp)), h.1]
          exact h.2
        · exact h.elim
      · exact h.elim
    · exact h.elim
  | load t x =>
    simp only [wpOp] at h ⊢
    rw [hl x (by simp [Op.operands])]
    split at h
    · rename_i i h1
      try simp only
      split at h
      · rename_i s g off h2
        try simp only
        split at h
        · rename_i g' cs h3
          replace h := bif_true h
          obtain ⟨hb, h⟩ := h
          split at h
          · rename_i c h4
            rw [ho _ _ _ h s (.inl (by simp)), h3]
            simp only [hb, h4, cond_true]
            exact h
          · exact h.elim
        · rename_i g' cs h3
          replace h := bif_true h
          obtain ⟨hb, h⟩ := h
          split at h
          · rename_i c h4
            rw [ho _ _ _ h s (.inl (by simp)), h3]
            simp only [hb, h4, cond_true]
            exact h
          · exact h.elim
        · exact h.elim
      · exact h
      · exact h.elim
    · exact h.elim
  | store t x y =>
    simp only [wpOp] at h ⊢
    rw [hl x (by simp [Op.operands]), hl y (by simp [Op.operands])]
    split at h
    · rename_i i s g off c h1 h2 h3
      try rw [h1, h2, h3]
      try simp only
      split at h
      · rename_i g' cs h4
        replace h := bif_true h
        obtain ⟨hb, h⟩ := h
        split at h
        · rename_i cs' h5
          rw [ho _ _ _ h s (.inl (by simp)), h4]
          simp only [hb, h5, cond_true]
          exact h
        · exact h.elim
      · exact h.elim
    · exact h.elim
  | nilCheck x =>
    simp only [wpOp] at h ⊢
    rw [hl x (by simp [Op.operands])]
    split at h
    · rename_i s g off h2
      try simp only
      split at h
      · rename_i g' cs h3
        replace h := bif_true h
        rw [ho _ _ _ h.2 s (.inl (by simp)), h3]
        simp only [h.1, cond_true]
        exact h.2
      · rename_i g' cs h3
        replace h := bif_true h
        rw [ho _ _ _ h.2 s (.inl (by simp)), h3]
        simp only [h.1, cond_true]
        exact h.2
      · exact h.elim
    · exact h
    · exact h
    · exact h
    · exact h.elim
  | binOp op t x y t' =>
    simp only [wpOp] at h ⊢
    rw [hl x (by simp [Op.operands]), hl y (by simp [Op.operands])]; exact h
  | unOp op t x =>
    cases op <;> simp only [wpOp] at h ⊢ <;> (rw [hl x (by simp [Op.operands])]; exact h)
  | convert s t x =>
    simp only [wpOp] at h ⊢
    rw [hl x (by simp [Op.operands])]; exact h
  | makeFunc fn first captured =>
    cases fn with
    | func f =>
      simp only [wpOp] at h ⊢
      have : captured.toList.map lk' = captured.toList.map lk := List.map_congr_left fun x hx => hl x (by simp [Op.operands]; right; simpa using hx)
      rw [this]; exact h
    | _ => simp only [wpOp] at h
  | fieldAddr t x k =>
    simp only [wpOp] at h ⊢
    rw [hl x (by simp [Op.operands])]
    split at h
    · rename_i fs _ _ _ _ _ h1
      try simp only
      split at h
      · rename_i f h2
        try simp only
        split at h
        · rename_i i h3
          try simp only
          cases hz : Nat.beq i.size 0 with
          | true => rw [hz] at h; exact h.elim
          | false =>
            rw [hz] at h
            simp only [cond_false] at h ⊢
            split at h
            · rename_i s g off h4
              try simp only
              split at h
              · rename_i g' cs h5
                replace h := bif_true h
                rw [ho _ _ _ h.2 s (.inl (by simp)), h5]
                simp only [h.1, cond_true]
                exact h.2
              · rename_i g' cs h5
                replace h := bif_true h
                rw [ho _ _ _ h.2 s (.inl (by simp)), h5]
                simp only [h.1, cond_true]
                exact h.2
              · exact h.elim
            · exact h
            · exact h.elim
        · exact h.elim
      · exact h.elim
    · exact h.elim
  | field t x k =>
    simp only [wpOp] at h ⊢
    rw [hl x (by simp [Op.operands])]; exact h
  | indexAddr t x i =>
    simp only [wpOp] at h ⊢
    rw [hl x (by simp [Op.operands]), hl i (by simp [Op.operands])]; exact h
  | index t x i =>
    simp only [wpOp] at h ⊢
    rw [hl x (by simp [Op.operands]), hl i (by simp [Op.operands])]; exact h
  | extract x k =>
    simp only [wpOp] at h ⊢
    rw [hl x (by simp [Op.operands])]; exact h
  | call c =>
    simp only [Op.operands] at hl
    unfold wpOp at h ⊢
    cases hcc : c.callee with
    | builtin b =>
      simp only [hcc] at h ⊢
      exact wpBuiltin_local h (fun x hx => hl x (by simp [Call.operands]; right; simpa using hx)) ho
    | value f => simp only [hcc] at h ⊢; exact wpCall_local h hl ho
    | invoke r m => simp only [hcc] at h ⊢; exact wpCall_local h hl ho
  | _ => exact h.elim
end
end Go.Abs
