/-
  Soundness: an operation by what is known of it; objects of the call's own are handed over and come back.
-/
import Derived.Test.YtmcolhhmlpicaaaDoorAbsX4
namespace Go.Abs
open Go Go.RowKit

theorem idx2_spec : ∀ (τ : List (Nat × Nat)) (s h k j : Nat), idx2 τ s h k = some j → ∃ i, j = k + i ∧ τ[i]? = some (s, h)
  | [], _, _, _, _, he => by simp [idx2] at he
  | (t, g) :: r, s, h, k, j, he => by
    simp only [idx2] at he
    cases hb : (Nat.beq t s && Nat.beq g h) with
    | true =>
      rw [hb] at he
      simp at he
      simp only [Bool.and_eq_true] at hb
      have h1 := Nat.eq_of_beq_eq_true hb.1
      have h2 := Nat.eq_of_beq_eq_true hb.2
      subst h1; subst h2; subst he
      exact ⟨0, rfl, rfl⟩
    | false =>
      rw [hb] at he
      simp only [cond_false] at he
      obtain ⟨i, h1, h2⟩ := idx2_spec r s h (k + 1) j he
      exact ⟨i + 1, by omega, by simpa using h2⟩
theorem idx2_at {τ : List (Nat × Nat)} {s h j : Nat} (he : idx2 τ s h 0 = some j) : τ[j]? = some (s, h) := by
  obtain ⟨i, h1, h2⟩ := idx2_spec τ s h 0 j he
  rw [h1, Nat.zero_add]; exact h2

/-- The same objects under other names. -/
structure Match (τ : List (Nat × Nat)) (γ : Nat → Nat) (obj : Objs) (E : Nat → Value) (objc : Objs) (Eo : Nat → Value) : Prop where
  at_ : ∀ j t g, τ[j]? = some (t, g) → (obj t).1 = g ∧ ∃ o', oTo τ γ (obj t).2 = some o' ∧ objc j = (γ j, o') ∧ Eo j = E t

section
variable {τ : List (Nat × Nat)} {γ : Nat → Nat} {Z : Zone} {w : World} {obj objc : Objs} {E Eo : Nat → Value}

theorem oTo_arr {o o' : AObj} {el sz : Nat} {ds : List (List CV)} {foc : Option (Nat × List CV)} (h : oTo τ γ o = some o') (he : o' = .arr el sz ds foc) : ∃ foc0, o = .arr el sz ds foc0 := by
  subst he
  unfold oTo at h
  split at h
  · cases hc : csTo τ γ _ with
    | none => rw [hc] at h; simp at h
    | some cs => rw [hc] at h; simp at h
  · cases hc : csTo τ γ _ with
    | none => rw [hc] at h; simp at h
    | some cs => rw [hc] at h; simp at h; obtain ⟨rfl, rfl, rfl, _⟩ := h; exact ⟨_, rfl⟩
  · simp at h; subst h; exact ⟨_, rfl⟩
theorem oTo_tok {o o' : AObj} {el sz : Nat} (h : oTo τ γ o = some o') (he : o' = .tok el sz) : o = .tok el sz := by
  subst he
  unfold oTo at h
  split at h
  · cases hc : csTo τ γ _ with
    | none => rw [hc] at h; simp at h
    | some cs => rw [hc] at h; simp at h
  · cases hc : csTo τ γ _ with
    | none => rw [hc] at h; simp at h
    | some cs => rw [hc] at h; simp at h
  · simp at h; exact h
theorem oTo_map {o o' : AObj} {es : List (CV × CV)} (h : oTo τ γ o = some o') (he : o' = .map es) : o = .map es := by
  subst he
  unfold oTo at h
  split at h
  · cases hc : csTo τ γ _ with
    | none => rw [hc] at h; simp at h
    | some cs => rw [hc] at h; simp at h
  · cases hc : csTo τ γ _ with
    | none => rw [hc] at h; simp at h
    | some cs => rw [hc] at h; simp at h
  · simp at h; exact h
theorem oTo_var {o o' : AObj} {cs : List CV} (h : oTo τ γ o = some o') (he : o' = .var cs ∨ o' = .ro cs ∨ o' = .varx cs) : ∃ cs0, o = .var cs0 ∨ o = .ro cs0 ∨ o = .varx cs0 := by
  unfold oTo at h
  split at h
  · exact ⟨_, .inr (.inr rfl)⟩
  · cases hc : csTo τ γ _ with
    | none => rw [hc] at h; simp at h
    | some cs => rw [hc] at h; simp at h; subst h; simp at he
  · simp at h; subst h
    rcases he with he | he | he
    · exact ⟨_, .inl he⟩
    · exact ⟨_, .inr (.inl he)⟩
    · exact ⟨_, .inr (.inr he)⟩
theorem oTo_blk {o o' : AObj} (h : oTo τ γ o = some o') (e : Value) : o'.blk e = o.blk e := by
  unfold oTo at h
  split at h
  · cases hc : csTo τ γ _ with
    | none => rw [hc] at h; simp at h
    | some cs => rw [hc] at h; simp at h; subst h; cases e <;> first | rfl | (rename_i a; cases a <;> rfl)
  · cases hc : csTo τ γ _ with
    | none => rw [hc] at h; simp at h
    | some cs => rw [hc] at h; simp at h; subst h; rw [arr_blk, arr_blk]
  · simp at h; subst h; rfl

theorem Match.live (M : Match τ γ obj E objc Eo) {j t g : Nat} (hj : τ[j]? = some (t, g)) (h : live objc j (γ j)) : live obj t g := by
  obtain ⟨h1, o', h2, h3, _⟩ := M.at_ j t g hj
  obtain ⟨cs, h⟩ := h
  rw [h3] at h
  simp only [Prod.mk.injEq, true_and] at h
  obtain ⟨cs0, h4⟩ := oTo_var h2 h
  refine ⟨cs0, ?_⟩
  rcases h4 with h4 | h4 | h4
  · exact .inl (by rw [← h1, ← h4])
  · exact .inr (.inl (by rw [← h1, ← h4]))
  · exact .inr (.inr (by rw [← h1, ← h4]))
theorem Match.arr (M : Match τ γ obj E objc Eo) {j t g el sz : Nat} {ds : List (List CV)} {foc : Option (Nat × List CV)} (hj : τ[j]? = some (t, g)) (h : objc j = (γ j, .arr el sz ds foc)) : ∃ foc0, obj t = (g, .arr el sz ds foc0) := by
  obtain ⟨h1, o', h2, h3, _⟩ := M.at_ j t g hj
  rw [h3] at h
  simp only [Prod.mk.injEq, true_and] at h
  obtain ⟨f0, h4⟩ := oTo_arr h2 h
  exact ⟨f0, by rw [← h1, ← h4]⟩
theorem Match.map (M : Match τ γ obj E objc Eo) {j t g : Nat} {es : List (CV × CV)} (hj : τ[j]? = some (t, g)) (h : objc j = (γ j, .map es)) : obj t = (g, .map es) := by
  obtain ⟨h1, o', h2, h3, _⟩ := M.at_ j t g hj
  rw [h3] at h
  simp only [Prod.mk.injEq, true_and] at h
  rw [← h1, ← oTo_map h2 h]
theorem Match.tok (M : Match τ γ obj E objc Eo) {j t g el sz : Nat} (hj : τ[j]? = some (t, g)) (h : objc j = (γ j, .tok el sz)) : obj t = (g, .tok el sz) := by
  obtain ⟨h1, o', h2, h3, _⟩ := M.at_ j t g hj
  rw [h3] at h
  simp only [Prod.mk.injEq, true_and] at h
  rw [← h1, ← oTo_tok h2 h]
theorem Match.gen (M : Match τ γ obj E objc Eo) {j t g : Nat} (hj : τ[j]? = some (t, g)) : γ j ≤ (objc j).1 ∧ Eo j = E t := by
  obtain ⟨h1, o', h2, h3, h4⟩ := M.at_ j t g hj
  rw [h3]; exact ⟨Nat.le_refl _, h4⟩

theorem c1_closed {c c' : CV} (h : cTo1 τ γ c = some c') (hn : c.isRs = false) : c' = c := by
  cases c <;> first | (simp [cTo1] at h; exact h.symm) | (simp [CV.isRs] at hn)
theorem c_closed {c c' : CV} (h : cTo τ γ c = some c') (hn : c.isRs = false) : c' = c := by
  cases c <;> first | exact c1_closed (τ := τ) (γ := γ) h hn | (simp [CV.isRs] at hn)
theorem rs_to {t g : Nat} {f : Nat → CV} {c' : CV} (h : (idx2 τ t g 0).map f = some c') : ∃ j, τ[j]? = some (t, g) ∧ c' = f j := by
  cases hi : idx2 τ t g 0 with
  | none => rw [hi] at h; simp at h
  | some j => rw [hi] at h; simp at h; exact ⟨j, idx2_at hi, h.symm⟩
theorem rs_toS {t g : Nat} {f : Nat → SV} {c' : SV} (h : (idx2 τ t g 0).map f = some c') : ∃ j, τ[j]? = some (t, g) ∧ c' = f j := by
  cases hi : idx2 τ t g 0 with
  | none => rw [hi] at h; simp at h
  | some j => rw [hi] at h; simp at h; exact ⟨j, idx2_at hi, h.symm⟩
theorem RepX1.to (M : Match τ γ obj E objc Eo) {c c' : CV} {x : Value} (h : RepX1 Z w obj E c x) (hc : cTo1 τ γ c = some c') : RepX1 Z w objc Eo c' x := by
  cases h with
  | cl h => rw [c1_closed hc h.notRs]; exact .cl h
  | rs t g x hs hg h =>
    obtain ⟨j, hj, rfl⟩ := rs_to hc
    refine .rs j (γ j) x hs (M.gen hj).1 fun el sz ds foc ho => ?_
    obtain ⟨f0, h0⟩ := M.arr hj ho
    rw [(M.gen hj).2]; exact h _ _ _ _ h0
  | pr t g off x hs hg h =>
    obtain ⟨j, hj, rfl⟩ := rs_to hc
    refine .pr j (γ j) off x hs (M.gen hj).1 fun hl => ?_
    rw [(M.gen hj).2]; exact h (M.live hj hl)
  | mr t g x hs hg h =>
    obtain ⟨j, hj, rfl⟩ := rs_to hc
    refine .mr j (γ j) x hs (M.gen hj).1 fun es ho => ?_
    rw [(M.gen hj).2]; exact h _ (M.map hj ho)
theorem csTo1_spec : ∀ {cs cs' : List CV}, csTo1 τ γ cs = some cs' → cs'.length = cs.length ∧ ∀ (i : Nat) (c' : CV), cs'[i]? = some c' → ∃ c, cs[i]? = some c ∧ cTo1 τ γ c = some c'
  | [], cs', h => by simp [csTo1] at h; subst h; exact ⟨rfl, fun i c' h => by simp at h⟩
  | c :: r, cs', h => by
    simp only [csTo1] at h
    split at h
    · rename_i d ds h1 h2
      simp at h; subst h
      obtain ⟨k1, k2⟩ := csTo1_spec h2
      refine ⟨by simp [k1], fun i c' hi => ?_⟩
      cases i with
      | zero => simp at hi; subst hi; exact ⟨c, rfl, h1⟩
      | succ i => exact k2 i c' (by simpa using hi)
    · simp at h
theorem csTo_spec : ∀ {cs cs' : List CV}, csTo τ γ cs = some cs' → cs'.length = cs.length ∧ ∀ (i : Nat) (c' : CV), cs'[i]? = some c' → ∃ c, cs[i]? = some c ∧ cTo τ γ c = some c'
  | [], cs', h => by simp [csTo] at h; subst h; exact ⟨rfl, fun i c' h => by simp at h⟩
  | c :: r, cs', h => by
    simp only [csTo] at h
    split at h
    · rename_i d ds h1 h2
      simp at h; subst h
      obtain ⟨k1, k2⟩ := csTo_spec h2
      refine ⟨by simp [k1], fun i c' hi => ?_⟩
      cases i with
      | zero => simp at hi; subst hi; exact ⟨c, rfl, h1⟩
      | succ i => exact k2 i c' (by simpa using hi)
    · simp at h
theorem ssTo1_spec : ∀ {cs cs' : List SV}, ssTo1 τ γ cs = some cs' → cs'.length = cs.length ∧ ∀ (i : Nat) (c' : SV), cs'[i]? = some c' → ∃ c, cs[i]? = some c ∧ sTo1 τ γ c = some c'
  | [], cs', h => by simp [ssTo1] at h; subst h; exact ⟨rfl, fun i c' h => by simp at h⟩
  | c :: r, cs', h => by
    simp only [ssTo1] at h
    split at h
    · rename_i d ds h1 h2
      simp at h; subst h
      obtain ⟨k1, k2⟩ := ssTo1_spec h2
      refine ⟨by simp [k1], fun i c' hi => ?_⟩
      cases i with
      | zero => simp at hi; subst hi; exact ⟨c, rfl, h1⟩
      | succ i => exact k2 i c' (by simpa using hi)
    · simp at h
theorem ssTo_spec : ∀ {cs cs' : List SV}, ssTo τ γ cs = some cs' → cs'.length = cs.length ∧ ∀ (i : Nat) (c' : SV), cs'[i]? = some c' → ∃ c, cs[i]? = some c ∧ sTo τ γ c = some c'
  | [], cs', h => by simp [ssTo] at h; subst h; exact ⟨rfl, fun i c' h => by simp at h⟩
  | c :: r, cs', h => by
    simp only [ssTo] at h
    split at h
    · rename_i d ds h1 h2
      simp at h; subst h
      obtain ⟨k1, k2⟩ := ssTo_spec h2
      refine ⟨by simp [k1], fun i c' hi => ?_⟩
      cases i with
      | zero => simp at hi; subst hi; exact ⟨c, rfl, h1⟩
      | succ i => exact k2 i c' (by simpa using hi)
    · simp at h
theorem RepX.to (M : Match τ γ obj E objc Eo) {c c' : CV} {x : Value} (h : RepX Z w obj E c x) (hc : cTo τ γ c = some c') : RepX Z w objc Eo c' x := by
  cases h with
  | one h =>
    cases c with
    | fr f caps => cases h with | cl h => cases h
    | _ => exact .one (h.to M hc)
  | fr f caps vs hl h =>
    simp only [cTo] at hc
    cases hk : csTo1 τ γ caps with
    | none => rw [hk] at hc; simp at hc
    | some cs =>
      rw [hk] at hc
      simp at hc
      subst hc
      obtain ⟨k1, k2⟩ := csTo1_spec hk
      refine .fr f cs vs (k1.trans hl) fun i c' x h1 h2 => ?_
      obtain ⟨c, h3, h4⟩ := k2 i c' h1
      exact (h i c x h3 h2).to M h4
theorem c1_atom {c c' : CV} (h : cTo1 τ γ c = some c') : c'.atom = c.atom := by
  cases c <;> first | (simp [cTo1] at h; done) | (simp [cTo1] at h; rw [← h]; done) | (obtain ⟨j, _, rfl⟩ := rs_to h; rfl)
theorem c_atom {c c' : CV} (h : cTo τ γ c = some c') : c'.atom = c.atom := by
  cases c with
  | fr f caps =>
    simp only [cTo] at h
    cases hk : csTo1 τ γ caps with
    | none => rw [hk] at h; simp at h
    | some cs => rw [hk] at h; simp at h; subst h; rfl
  | _ => exact c1_atom (τ := τ) (γ := γ) h
theorem RepS.to1 (M : Match τ γ obj E objc Eo) {s s' : SV} {x : Value} (h : RepS Z w obj E s x) (hc : sTo1 τ γ s = some s') : RepS Z w objc Eo s' x := by
  cases h with
  | any x => simp [sTo1] at hc; subst hc; exact .any _
  | un => simp [sTo1] at hc; subst hc; exact .un
  | kt => simp [sTo1] at hc; subst hc; exact .kt
  | kf => simp [sTo1] at hc; subst hc; exact .kf
  | c c x h => simp [sTo1] at hc; subst hc; exact .c _ _ h
  | pm t g off x hs hg h =>
    obtain ⟨j, hj, rfl⟩ := rs_toS hc
    refine .pm j (γ j) off x hs (M.gen hj).1 fun hl => ?_
    rw [(M.gen hj).2]; exact h (M.live hj hl)
  | ap t g sz es x h hg ht =>
    simp only [sTo1] at hc
    cases hi : idx2 τ t g 0 with
    | none => rw [hi] at hc; simp at hc; subst hc; exact .c _ _ h
    | some j =>
      rw [hi] at hc; simp at hc; subst hc
      have hj := idx2_at hi
      exact .ap j (γ j) sz es x h (M.gen hj).1 fun el s ho => by rw [(M.gen hj).2]; exact ht _ _ (M.tok hj ho)
  | fnr => simp [sTo1] at hc
  | rs t g x hs hg h =>
    obtain ⟨j, hj, rfl⟩ := rs_toS hc
    refine .rs j (γ j) x hs (M.gen hj).1 fun el sz ds foc ho => ?_
    obtain ⟨f0, h0⟩ := M.arr hj ho
    rw [(M.gen hj).2]; exact h _ _ _ _ h0
  | agx cs vs hl h ha =>
    simp only [sTo1] at hc
    cases hk : csTo τ γ cs with
    | none => rw [hk] at hc; simp at hc
    | some cs' =>
      rw [hk] at hc; simp at hc; subst hc
      obtain ⟨k1, k2⟩ := csTo_spec hk
      refine .agx cs' vs (k1.trans hl) (fun i c' x h1 h2 => ?_) (fun i c' h1 => ?_)
      · obtain ⟨c, h3, h4⟩ := k2 i c' h1
        exact (h i c x h3 h2).to M h4
      · obtain ⟨c, h3, h4⟩ := k2 i c' h1
        rw [c_atom h4]; exact ha i c h3
  | pe t g n off x hg h =>
    obtain ⟨j, hj, rfl⟩ := rs_toS hc
    refine .pe j (γ j) n off x (M.gen hj).1 fun el sz ds foc ho => ?_
    obtain ⟨f0, h0⟩ := M.arr hj ho
    rw [(M.gen hj).2]; exact h _ _ _ _ h0
  | mr t g x hs hg h =>
    obtain ⟨j, hj, rfl⟩ := rs_toS hc
    refine .mr j (γ j) x hs (M.gen hj).1 fun es ho => ?_
    rw [(M.gen hj).2]; exact h _ (M.map hj ho)
theorem RepS.to (M : Match τ γ obj E objc Eo) {s s' : SV} {x : Value} (h : RepS Z w obj E s x) (hc : sTo τ γ s = some s') : RepS Z w objc Eo s' x := by
  cases s with
  | fnr f caps =>
    cases h with
    | fnr _ _ vs hl h =>
      simp only [sTo] at hc
      cases hk : ssTo1 τ γ caps with
      | none => rw [hk] at hc; simp at hc
      | some cs =>
        rw [hk] at hc; simp at hc; subst hc
        obtain ⟨k1, k2⟩ := ssTo1_spec hk
        refine .fnr f cs vs (k1.trans hl) fun i c' x h1 h2 => ?_
        obtain ⟨c, h3, h4⟩ := k2 i c' h1
        exact (h i c x h3 h2).to1 M h4
  | _ => exact h.to1 M hc
theorem ObjOk.to (M : Match τ γ obj E objc Eo) {o o' : AObj} {e : Value} (h : ObjOk Z w obj E e o) (hc : oTo τ γ o = some o') : ObjOk Z w objc Eo e o' := by
  cases o with
  | varx cs =>
    simp only [oTo] at hc
    cases hk : csTo τ γ cs with
    | none => rw [hk] at hc; simp at hc
    | some cs' =>
      rw [hk] at hc; simp at hc; subst hc
      obtain ⟨k1, k2⟩ := csTo_spec hk
      obtain ⟨b, el, arr, h1, h2, h3, h4, h5⟩ := h
      refine ⟨b, el, arr, h1, h2, h3.trans k1.symm, fun j c' hj => ?_, h5⟩
      obtain ⟨c, h6, h7⟩ := k2 j c' hj
      obtain ⟨q1, x, q2, q3⟩ := h4 j c h6
      exact ⟨by rw [c_atom h7]; exact q1, x, q2, q3.to M h7⟩
  | arr el sz ds foc =>
    obtain ⟨xs, h1, h2, h3, h4, h5, h6⟩ := h
    cases foc with
    | none =>
      simp [oTo] at hc; subst hc
      refine ⟨xs, h1, h2, h3, h4, fun i d hi hcx j c hj => ?_, h6⟩
      obtain ⟨q1, u, q2, q3⟩ := h5 i d hi hcx j c hj
      exact ⟨q1, u, q2, .cl (q3.closed (noRs_get (h3.2 i d hcx (fun _ _ h => nomatch h)) hj))⟩
    | some p =>
      obtain ⟨m, cs⟩ := p
      simp only [oTo] at hc
      cases hk : csTo τ γ cs with
      | none => rw [hk] at hc; simp at hc
      | some cs' =>
        rw [hk] at hc; simp at hc; subst hc
        obtain ⟨k1, k2⟩ := csTo_spec hk
        have hcx : ∀ k, cellX ds (some (m, cs')) k = if k = m then some cs' else ds[k]? := fun k => rfl
        have hcx0 : ∀ k, cellX ds (some (m, cs)) k = if k = m then some cs else ds[k]? := fun k => rfl
        refine ⟨xs, h1, h2, ⟨fun m' d' he => by cases he; exact h3.1 m cs rfl, fun i d hd hne => h3.2 i d hd fun m' d' he => by cases he; exact hne m cs' rfl⟩, fun i d hi hc' => ?_, fun i d hi hc' j c hj => ?_, h6⟩
        · rw [hcx] at hc'
          by_cases hk' : i = m
          · rw [if_pos hk'] at hc'
            cases hc'
            rw [k1]; exact h4 i cs hi (by rw [hcx0, if_pos hk'])
          · rw [if_neg hk'] at hc'
            exact h4 i d hi (by rw [hcx0, if_neg hk']; exact hc')
        · rw [hcx] at hc'
          by_cases hk' : i = m
          · rw [if_pos hk'] at hc'
            cases hc'
            obtain ⟨c0, h7, h8⟩ := k2 j c hj
            obtain ⟨q1, u, q2, q3⟩ := h5 i cs hi (by rw [hcx0, if_pos hk']) j c0 h7
            exact ⟨by rw [c_atom h8]; exact q1, u, q2, q3.to M h8⟩
          · rw [if_neg hk'] at hc'
            obtain ⟨q1, u, q2, q3⟩ := h5 i d hi (by rw [hcx0, if_neg hk']; exact hc') j c hj
            exact ⟨q1, u, q2, .cl (q3.closed (noRs_get (h3.2 i d hc' (fun m' d' he => by cases he; exact hk')) hj))⟩
  | none => simp [oTo] at hc; subst hc; exact h
  | spent => simp [oTo] at hc; subst hc; exact h
  | var cs => simp [oTo] at hc; subst hc; exact h
  | ro cs => simp [oTo] at hc; subst hc; exact h
  | tok el sz => simp [oTo] at hc; subst hc; exact h
  | map es => simp [oTo] at hc; subst hc; exact h
theorem osTo_spec {obj : Objs} : ∀ {l : List (Nat × Nat)} {k : Nat} {os : List (Nat × AObj)}, osTo τ γ obj k l = some os → os.length = l.length ∧ ∀ (j t g : Nat), l[j]? = some (t, g) → (obj t).1 = g ∧ ∃ o', oTo τ γ (obj t).2 = some o' ∧ os[j]? = some (γ (k + j), o')
  | [], k, os, h => by simp [osTo] at h; subst h; exact ⟨rfl, fun j t g h => by simp at h⟩
  | (t, g) :: r, k, os, h => by
    simp only [osTo] at h
    cases hb : Nat.beq (obj t).1 g with
    | false => rw [hb] at h; simp at h
    | true =>
      rw [hb] at h
      simp only [cond_true] at h
      split at h
      · rename_i o os' h1 h2
        simp at h; subst h
        obtain ⟨k1, k2⟩ := osTo_spec h2
        refine ⟨by simp [k1], fun j t' g' hj => ?_⟩
        cases j with
        | zero => simp at hj; obtain ⟨rfl, rfl⟩ := hj; exact ⟨Nat.eq_of_beq_eq_true hb, o, h1, rfl⟩
        | succ j =>
          obtain ⟨q1, o', q2, q3⟩ := k2 j t' g' (by simpa using hj)
          exact ⟨q1, o', q2, by rw [show k + (j + 1) = k + 1 + j by omega]; simpa using q3⟩
      · simp at h
end

theorem nodupS_spec : ∀ {l : List Nat}, nodupS l = true → ∀ (i j x : Nat), l[i]? = some x → l[j]? = some x → i = j
  | [], _, i, _, _, h, _ => by simp at h
  | y :: r, hn, i, j, x, hi, hj => by
    simp only [nodupS] at hn
    cases hb : r.any (Nat.beq y) with
    | true => rw [hb] at hn; cases hn
    | false =>
      rw [hb] at hn
      simp only [cond_false] at hn
      rw [List.any_eq_false] at hb
      have hy : ∀ k, r[k]? ≠ some y := fun k hk => hb y (List.mem_of_getElem? hk) (Nat.beq_refl y)
      cases i with
      | zero =>
        cases j with
        | zero => rfl
        | succ j => simp at hi; subst hi; exact absurd (by simpa using hj) (hy j)
      | succ i =>
        cases j with
        | zero => simp at hj; subst hj; exact absurd (by simpa using hi) (hy i)
        | succ j => rw [nodupS_spec hn i j x (by simpa using hi) (by simpa using hj)]

section
variable {obj : Objs} {d off : Nat} {τ : List (Nat × Nat)}
theorem uBk_sites : ∀ (os : List (Nat × AObj)) (k j : Nat), j < os.length → ((uBk obj d off τ k os).map (·.1))[j]? = some (bkS d off τ (k + j))
  | [], _, _, h => by simp at h
  | (g, o) :: r, k, j, h => by
    cases j with
    | zero => simp [uBk]
    | succ j =>
      have := uBk_sites r (k + 1) j (by simpa using h)
      rw [show k + (j + 1) = k + 1 + j by omega]
      simpa [uBk] using this
theorem upd_uBk_at {obj0 : Objs} : ∀ (os : List (Nat × AObj)) (k j g : Nat) (o : AObj), nodupS ((uBk obj d off τ k os).map (·.1)) = true → os[j]? = some (g, o) → upd obj0 (uBk obj d off τ k os) (bkS d off τ (k + j)) = (bkG obj d off τ (k + j) g, oBk obj d off τ o)
  | [], _, _, _, _, _, h => by simp at h
  | (g0, o0) :: r, k, j, g, o, hn, h => by
    cases j with
    | zero => simp at h; obtain ⟨rfl, rfl⟩ := h; simp [uBk, upd]
    | succ j =>
      have hne : Nat.beq (bkS d off τ k) (bkS d off τ (k + (j + 1))) = false := by
        cases hb : Nat.beq (bkS d off τ k) (bkS d off τ (k + (j + 1))) with
        | false => rfl
        | true =>
          have he := Nat.eq_of_beq_eq_true hb
          have hlt : j + 1 < ((g0, o0) :: r).length := (List.getElem?_eq_some_iff.1 h).1
          have := nodupS_spec hn 0 (j + 1) _ (uBk_sites ((g0, o0) :: r) k 0 (by simp)) (by rw [uBk_sites ((g0, o0) :: r) k (j + 1) hlt]; exact congrArg some he.symm)
          omega
      simp only [uBk, upd, hne, cond_false]
      have hn' : nodupS ((uBk obj d off τ (k + 1) r).map (·.1)) = true := by
        simp only [uBk, List.map_cons, nodupS] at hn
        cases hb : List.any ((uBk obj d off τ (k + 1) r).map (·.1)) (Nat.beq (bkS d off τ k)) with
        | true => rw [hb] at hn; cases hn
        | false => rw [hb] at hn; exact hn
      have := upd_uBk_at (obj0 := obj0) r (k + 1) j g o hn' (by simpa using h)
      rw [show k + (j + 1) = k + 1 + j by omega]
      exact this
theorem upd_uBk_ne {obj0 : Objs} : ∀ (os : List (Nat × AObj)) (k t : Nat), (∀ j, j < os.length → t ≠ bkS d off τ (k + j)) → upd obj0 (uBk obj d off τ k os) t = obj0 t
  | [], _, _, _ => rfl
  | (g0, o0) :: r, k, t, h => by
    have hne : Nat.beq (bkS d off τ k) t = false := by
      cases hb : Nat.beq (bkS d off τ k) t with
      | false => rfl
      | true => exact absurd (Nat.eq_of_beq_eq_true hb).symm (h 0 (by simp))
    simp only [uBk, upd, hne, cond_false]
    exact upd_uBk_ne r (k + 1) t fun j hj => by
      rw [show k + 1 + j = k + (j + 1) by omega]
      exact h (j + 1) (by simpa using hj)
theorem bkG_le {j k k' : Nat} (h : k ≤ k') : bkG obj d off τ j k ≤ bkG obj d off τ j k' := by unfold bkG; split <;> omega
theorem bkG_inj {j k k' : Nat} (h : bkG obj d off τ j k = bkG obj d off τ j k') : k = k' := by unfold bkG at h; split at h <;> omega

/-- The way back: objects under the caller's own names. -/
structure Back (obj : Objs) (d off : Nat) (τ : List (Nat × Nat)) (os : List (Nat × AObj)) (Eo : Nat → Value) (obj' : Objs) (E' : Nat → Value) : Prop where
  at_ : ∀ j g o, os[j]? = some (g, o) → obj' (bkS d off τ j) = (bkG obj d off τ j g, oBk obj d off τ o) ∧ E' (bkS d off τ j) = Eo j
variable {os : List (Nat × AObj)} {Eo E' : Nat → Value} {obj' : Objs} {Z : Zone} {w : World}
theorem oBk_blk (o : AObj) (e : Value) : (oBk obj d off τ o).blk e = o.blk e := by
  cases o with
  | varx cs => cases e <;> first | rfl | (rename_i a; cases a <;> rfl)
  | arr el sz ds foc =>
    cases foc with
    | none => rfl
    | some p => obtain ⟨m, cs⟩ := p; simp only [oBk]; rw [arr_blk, arr_blk]
  | _ => rfl
theorem Back.live (B : Back obj d off τ os Eo obj' E') {j k : Nat} (hj : j < os.length) (h : live obj' (bkS d off τ j) (bkG obj d off τ j k)) : live (objL os) j k := by
  have hos : os[j]? = some (os[j].1, os[j].2) := List.getElem?_eq_getElem hj
  obtain ⟨h1, _⟩ := B.at_ j _ _ hos
  obtain ⟨cs, h⟩ := h
  rw [h1] at h
  have hl : objL os j = (os[j].1, os[j].2) := by unfold objL; rw [hos]
  rcases h with h | h | h
  all_goals
    simp only [Prod.mk.injEq] at h
    have hk := bkG_inj h.1
    rw [hk] at hl
    have h2 := h.2
  · cases ho : os[j].2 with
    | var cs0 => rw [ho] at hl; exact ⟨cs0, .inl hl⟩
    | arr el sz ds foc => rw [ho] at h2; cases foc <;> simp [oBk] at h2
    | _ => rw [ho] at h2; simp [oBk] at h2
  · cases ho : os[j].2 with
    | ro cs0 => rw [ho] at hl; exact ⟨cs0, .inr (.inl hl)⟩
    | arr el sz ds foc => rw [ho] at h2; cases foc <;> simp [oBk] at h2
    | _ => rw [ho] at h2; simp [oBk] at h2
  · cases ho : os[j].2 with
    | varx cs0 => rw [ho] at hl; exact ⟨cs0, .inr (.inr hl)⟩
    | arr el sz ds foc => rw [ho] at h2; cases foc <;> simp [oBk] at h2
    | _ => rw [ho] at h2; simp [oBk] at h2
theorem Back.arr (B : Back obj d off τ os Eo obj' E') {j k el sz : Nat} {ds : List (List CV)} {foc : Option (Nat × List CV)} (hj : j < os.length) (h : obj' (bkS d off τ j) = (bkG obj d off τ j k, .arr el sz ds foc)) : ∃ foc0, objL os j = (k, .arr el sz ds foc0) := by
  have hos : os[j]? = some (os[j].1, os[j].2) := List.getElem?_eq_getElem hj
  obtain ⟨h1, _⟩ := B.at_ j _ _ hos
  rw [h1] at h
  have hl : objL os j = (os[j].1, os[j].2) := by unfold objL; rw [hos]
  simp only [Prod.mk.injEq] at h
  rw [bkG_inj h.1] at hl
  have h2 := h.2
  cases ho : os[j].2 with
  | arr el' sz' ds' foc' =>
    rw [ho] at h2 hl
    cases foc' with
    | none => simp [oBk] at h2; obtain ⟨rfl, rfl, rfl, _⟩ := h2; exact ⟨_, hl⟩
    | some p => obtain ⟨m, cs⟩ := p; simp [oBk] at h2; obtain ⟨rfl, rfl, rfl, _⟩ := h2; exact ⟨_, hl⟩
  | _ => rw [ho] at h2; simp [oBk] at h2
theorem Back.map (B : Back obj d off τ os Eo obj' E') {j k : Nat} {es : List (CV × CV)} (hj : j < os.length) (h : obj' (bkS d off τ j) = (bkG obj d off τ j k, .map es)) : objL os j = (k, .map es) := by
  have hos : os[j]? = some (os[j].1, os[j].2) := List.getElem?_eq_getElem hj
  obtain ⟨h1, _⟩ := B.at_ j _ _ hos
  rw [h1] at h
  have hl : objL os j = (os[j].1, os[j].2) := by unfold objL; rw [hos]
  simp only [Prod.mk.injEq] at h
  rw [bkG_inj h.1] at hl
  have h2 := h.2
  cases ho : os[j].2 with
  | map es' => rw [ho] at h2 hl; simp [oBk] at h2; subst h2; exact hl
  | arr el sz ds foc => rw [ho] at h2; cases foc <;> simp [oBk] at h2
  | _ => rw [ho] at h2; simp [oBk] at h2
theorem Back.tok (B : Back obj d off τ os Eo obj' E') {j k el sz : Nat} (hj : j < os.length) (h : obj' (bkS d off τ j) = (bkG obj d off τ j k, .tok el sz)) : objL os j = (k, .tok el sz) := by
  have hos : os[j]? = some (os[j].1, os[j].2) := List.getElem?_eq_getElem hj
  obtain ⟨h1, _⟩ := B.at_ j _ _ hos
  rw [h1] at h
  have hl : objL os j = (os[j].1, os[j].2) := by unfold objL; rw [hos]
  simp only [Prod.mk.injEq] at h
  rw [bkG_inj h.1] at hl
  have h2 := h.2
  cases ho : os[j].2 with
  | tok el' sz' => rw [ho] at h2 hl; simp [oBk] at h2; obtain ⟨rfl, rfl⟩ := h2; exact hl
  | arr el sz ds foc => rw [ho] at h2; cases foc <;> simp [oBk] at h2
  | _ => rw [ho] at h2; simp [oBk] at h2
theorem Back.gen (B : Back obj d off τ os Eo obj' E') {j k : Nat} (hj : j < os.length) (hk : k ≤ (objL os j).1) : bkG obj d off τ j k ≤ (obj' (bkS d off τ j)).1 ∧ E' (bkS d off τ j) = Eo j := by
  have hos : os[j]? = some (os[j].1, os[j].2) := List.getElem?_eq_getElem hj
  obtain ⟨h1, h2⟩ := B.at_ j _ _ hos
  have hl : objL os j = (os[j].1, os[j].2) := by unfold objL; rw [hos]
  rw [hl] at hk
  rw [h1]
  exact ⟨bkG_le hk, h2⟩
theorem blt_lt {j n : Nat} (h : Nat.blt j n = true) : j < n := Nat.le_of_ble_eq_true h
theorem RepX1.back (B : Back obj d off τ os Eo obj' E') {c : CV} {x : Value} (h : RepX1 Z w (objL os) Eo c x) (hc : cLt1 os.length c = true) : RepX1 Z w obj' E' (cBk1 obj d off τ c) x := by
  cases h with
  | cl h => have hn := h.notRs; cases c <;> first | exact .cl h | (simp [CV.isRs] at hn)
  | rs j k x hs hg h =>
    have hj := blt_lt hc
    obtain ⟨g1, g2⟩ := B.gen hj hg
    refine .rs _ _ x hs g1 fun el sz ds foc ho => ?_
    obtain ⟨f0, h0⟩ := B.arr hj ho
    rw [g2]; exact h _ _ _ _ h0
  | pr j k off x hs hg h =>
    have hj := blt_lt hc
    obtain ⟨g1, g2⟩ := B.gen hj hg
    refine .pr _ _ _ x hs g1 fun hl => ?_
    rw [g2]; exact h (B.live hj hl)
  | mr j k x hs hg h =>
    have hj := blt_lt hc
    obtain ⟨g1, g2⟩ := B.gen hj hg
    refine .mr _ _ x hs g1 fun es ho => ?_
    rw [g2]; exact h _ (B.map hj ho)
theorem all_get {α : Type} {p : α → Bool} {l : List α} (h : l.all p = true) {i : Nat} {x : α} (hi : l[i]? = some x) : p x = true := List.all_eq_true.1 h x (List.mem_of_getElem? hi)
theorem RepX.back (B : Back obj d off τ os Eo obj' E') {c : CV} {x : Value} (h : RepX Z w (objL os) Eo c x) (hc : cLt os.length c = true) : RepX Z w obj' E' (cBk obj d off τ c) x := by
  cases h with
  | one h =>
    cases c with
    | fr f caps => cases h with | cl h => cases h
    | _ => exact .one (h.back B hc)
  | fr f caps vs hl h =>
    simp only [cLt] at hc
    refine .fr f _ vs (by simpa using hl) fun i c x h1 h2 => ?_
    rw [List.getElem?_map] at h1
    cases hk : caps[i]? with
    | none => rw [hk] at h1; simp at h1
    | some c0 => rw [hk] at h1; simp at h1; subst h1; exact (h i c0 x hk h2).back B (all_get hc hk)
theorem cBk_atom (c : CV) : (cBk obj d off τ c).atom = c.atom := by cases c <;> rfl
theorem RepS.back1 (B : Back obj d off τ os Eo obj' E') {s : SV} {x : Value} (h : RepS Z w (objL os) Eo s x) (hs : ∀ f caps, s ≠ .fnr f caps) (hc : sLt1 os.length s = true) : RepS Z w obj' E' (sBk1 obj d off τ s) x := by
  cases h with
  | any x => exact .any _
  | un => exact .un
  | kt => exact .kt
  | kf => exact .kf
  | c c x h => exact .c _ _ h
  | pm j k off x hs hg h =>
    have hj := blt_lt hc
    obtain ⟨g1, g2⟩ := B.gen hj hg
    refine .pm _ _ _ x hs g1 fun hl => ?_
    rw [g2]; exact h (B.live hj hl)
  | ap j k sz es x h hg ht =>
    have hj := blt_lt hc
    obtain ⟨g1, g2⟩ := B.gen hj hg
    exact .ap _ _ sz es x h g1 fun el s ho => by rw [g2]; exact ht _ _ (B.tok hj ho)
  | fnr f caps => exact absurd rfl (hs f caps)
  | rs j k x hs hg h =>
    have hj := blt_lt hc
    obtain ⟨g1, g2⟩ := B.gen hj hg
    refine .rs _ _ x hs g1 fun el sz ds foc ho => ?_
    obtain ⟨f0, h0⟩ := B.arr hj ho
    rw [g2]; exact h _ _ _ _ h0
  | agx cs vs hl h ha =>
    simp only [sLt1] at hc
    refine .agx _ vs (by simpa using hl) (fun i c x h1 h2 => ?_) (fun i c h1 => ?_)
    · rw [List.getElem?_map] at h1
      cases hk : cs[i]? with
      | none => rw [hk] at h1; simp at h1
      | some c0 => rw [hk] at h1; simp at h1; subst h1; exact (h i c0 x hk h2).back B (all_get hc hk)
    · rw [List.getElem?_map] at h1
      cases hk : cs[i]? with
      | none => rw [hk] at h1; simp at h1
      | some c0 => rw [hk] at h1; simp at h1; subst h1; rw [cBk_atom]; exact ha i c0 hk
  | pe j k n off x hg h =>
    have hj := blt_lt hc
    obtain ⟨g1, g2⟩ := B.gen hj hg
    refine .pe _ _ _ _ x g1 fun el sz ds foc ho => ?_
    obtain ⟨f0, h0⟩ := B.arr hj ho
    rw [g2]; exact h _ _ _ _ h0
  | mr j k x hs hg h =>
    have hj := blt_lt hc
    obtain ⟨g1, g2⟩ := B.gen hj hg
    refine .mr _ _ x hs g1 fun es ho => ?_
    rw [g2]; exact h _ (B.map hj ho)
theorem RepS.back (B : Back obj d off τ os Eo obj' E') {s : SV} {x : Value} (h : RepS Z w (objL os) Eo s x) (hc : sLt os.length s = true) : RepS Z w obj' E' (sBk obj d off τ s) x := by
  cases s with
  | fnr f caps =>
    cases h with
    | fnr _ _ vs hl h =>
      refine .fnr f _ vs (by simpa using hl) fun i c x h1 h2 => ?_
      rw [List.getElem?_map] at h1
      cases hk : caps[i]? with
      | none => rw [hk] at h1; simp at h1
      | some c0 =>
        rw [hk] at h1; simp at h1; subst h1
        have hn := all_get (show caps.all (sLt1 os.length) = true from hc) hk
        exact (h i c0 x hk h2).back1 B (fun f caps e => by rw [e] at hn; cases hn) hn
  | _ => exact h.back1 B (fun f caps e => nomatch e) hc
theorem ObjOk.back (B : Back obj d off τ os Eo obj' E') {o : AObj} {e : Value} (h : ObjOk Z w (objL os) Eo e o) (hc : oLt os.length o = true) : ObjOk Z w obj' E' e (oBk obj d off τ o) := by
  cases o with
  | varx cs =>
    obtain ⟨b, el, arr, h1, h2, h3, h4, h5⟩ := h
    refine ⟨b, el, arr, h1, h2, by simpa using h3, fun j c hj => ?_, h5⟩
    rw [List.getElem?_map] at hj
    cases hk : cs[j]? with
    | none => rw [hk] at hj; simp at hj
    | some c0 =>
      rw [hk] at hj; simp at hj; subst hj
      obtain ⟨q1, x, q2, q3⟩ := h4 j c0 hk
      exact ⟨by rw [cBk_atom]; exact q1, x, q2, q3.back B (all_get (show cs.all (cLt os.length) = true from hc) hk)⟩
  | arr el sz ds foc =>
    obtain ⟨xs, h1, h2, h3, h4, h5, h6⟩ := h
    cases foc with
    | none =>
      refine ⟨xs, h1, h2, h3, h4, fun i d hi hcx j c hj => ?_, h6⟩
      obtain ⟨q1, u, q2, q3⟩ := h5 i d hi hcx j c hj
      exact ⟨q1, u, q2, .cl (q3.closed (noRs_get (h3.2 i d hcx (fun _ _ h => nomatch h)) hj))⟩
    | some p =>
      obtain ⟨m, cs⟩ := p
      have hc' : cs.all (cLt os.length) = true := hc
      have hcx : ∀ k, cellX ds (some (m, cs.map (cBk obj d off τ))) k = if k = m then some (cs.map (cBk obj d off τ)) else ds[k]? := fun k => rfl
      have hcx0 : ∀ k, cellX ds (some (m, cs)) k = if k = m then some cs else ds[k]? := fun k => rfl
      refine ⟨xs, h1, h2, ⟨fun m' d' he => by cases he; exact h3.1 m cs rfl, fun i d' hd hne => h3.2 i d' hd fun m' d'' he => by cases he; exact hne m _ rfl⟩, fun i d' hi hc1 => ?_, fun i d' hi hc1 j c hj => ?_, h6⟩
      · rw [hcx] at hc1
        by_cases hk' : i = m
        · rw [if_pos hk'] at hc1
          cases hc1
          rw [List.length_map]; exact h4 i cs hi (by rw [hcx0, if_pos hk'])
        · rw [if_neg hk'] at hc1
          exact h4 i d' hi (by rw [hcx0, if_neg hk']; exact hc1)
      · rw [hcx] at hc1
        by_cases hk' : i = m
        · rw [if_pos hk'] at hc1
          cases hc1
          rw [List.getElem?_map] at hj
          cases hk : cs[j]? with
          | none => rw [hk] at hj; simp at hj
          | some c0 =>
            rw [hk] at hj; simp at hj; subst hj
            obtain ⟨q1, u, q2, q3⟩ := h5 i cs hi (by rw [hcx0, if_pos hk']) j c0 hk
            exact ⟨by rw [cBk_atom]; exact q1, u, q2, q3.back B (all_get hc' hk)⟩
        · rw [if_neg hk'] at hc1
          obtain ⟨q1, u, q2, q3⟩ := h5 i d' hi (by rw [hcx0, if_neg hk']; exact hc1) j c hj
          exact ⟨q1, u, q2, .cl (q3.closed (noRs_get (h3.2 i d' hc1 (fun m' d'' he => by cases he; exact hk')) hj))⟩
  | none => exact h
  | spent => exact h
  | var cs => exact h
  | ro cs => exact h
  | tok el sz => exact h
  | map es => exact h
end

section
variable {P : Program} {G : World → Prop} {T : Tab} {Z0 : Base} {w0 : World} {S : Nat → Prop} {n : Nat} {Z : Zone} {E : Nat → Value} {st : St} {a : Act} {w : World}
theorem SameKind.back {o o0 o1 : AObj} {τ : List (Nat × Nat)} {obj : Objs} {d off : Nat} (h : SameKind o1 o) (hk : oTo τ (fun _ => 0) o0 = some o1) : SameKind o0 (oBk obj d off τ o) := by
  unfold oTo at hk
  split at hk
  · cases hc : csTo τ (fun _ => 0) _ with
    | none => rw [hc] at hk; simp at hk
    | some cs =>
      rw [hc] at hk; simp at hk; subst hk
      cases o with
      | arr el sz ds foc => simp [SameKind] at h
      | _ => first | trivial | (simp [SameKind] at h)
  · cases hc : csTo τ (fun _ => 0) _ with
    | none => rw [hc] at hk; simp at hk
    | some cs =>
      rw [hc] at hk; simp at hk; subst hk
      cases o with
      | arr el sz ds foc => cases foc <;> exact h
      | _ => simp [SameKind] at h
  · simp at hk; subst hk
    cases o with
    | arr el sz ds foc =>
      cases foc with
      | none => exact h
      | some p => obtain ⟨m, cs⟩ := p; cases o0 <;> first | exact h | (simp [SameKind] at h)
    | varx cs => cases o0 <;> first | trivial | (simp [SameKind] at h)
    | _ => exact h
theorem eff_sound (o : Oper) {K : KOp} {next : Act → World → Prop} {Q : Exit → Act → World → Prop} (hI : Inv G Z0 w0 S n Z E st a w) (hd : inRange n o.dst = true) (h : wpEff (orc P G) (look st) st.obj o.dst o.op o.type K)
    (hn : ∀ r rd u Z' E' x w', K r rd u → Inv G Z0 w0 S n Z' E' ⟨put st.env o.dst r, upd st.obj u⟩ (a.put o.dst x) w' → next (a.put o.dst x) w') : o.wp P a w next Q := by
  obtain ⟨τ, off, args, os, r, os', hargs, hos, heff, hchk, hK⟩ := h
  simp only [Bool.and_eq_true] at hchk
  obtain ⟨⟨⟨hnd, hlen⟩, hrlt⟩, hoslt⟩ := hchk
  have hlen := Nat.le_of_ble_eq_true hlen
  obtain ⟨hol, hoa⟩ := osTo_spec hos
  -- the caller's side
  let Eo : Nat → Value := fun j => match τ[j]? with | some (t, _) => E t | none => undef
  have hEo : ∀ j t g, τ[j]? = some (t, g) → Eo j = E t := fun j t g h => by simp only [Eo, h]
  have M : Match τ (fun _ => 0) st.obj E (objL os) Eo := ⟨fun j t g hj => by
    obtain ⟨h1, o', h2, h3⟩ := hoa j t g hj
    exact ⟨h1, o', h2, by unfold objL; rw [h3], hEo j t g hj⟩⟩
  have hsite : ∀ j, j < τ.length → bkS (o.dst.getD 0) off τ j = (τ[j]?.getD (0, 0)).1 := fun j hj => by
    unfold bkS; rw [List.getElem?_eq_getElem hj]; rfl
  have hinj : ∀ i j, i < os'.length → j < os'.length → bkS (o.dst.getD 0) off τ i = bkS (o.dst.getD 0) off τ j → i = j := fun i j hi hj he => by
    have h1 := uBk_sites (obj := st.obj) (d := o.dst.getD 0) (off := off) (τ := τ) os' 0 i hi
    have h2 := uBk_sites (obj := st.obj) (d := o.dst.getD 0) (off := off) (τ := τ) os' 0 j hj
    rw [Nat.zero_add] at h1 h2
    rw [he] at h1
    exact nodupS_spec hnd i j _ h1 h2
  have hbk : ∀ j t g, τ[j]? = some (t, g) → bkS (o.dst.getD 0) off τ j = t := fun j t g hj => by unfold bkS; rw [hj]
  have hjl : ∀ j t g, τ[j]? = some (t, g) → j < os'.length := fun j t g hj => Nat.lt_of_lt_of_le (List.getElem?_eq_some_iff.1 hj).1 hlen
  have hblk : ∀ j b, (objL os j).2.blk (Eo j) = some b → ∃ t g, τ[j]? = some (t, g) ∧ (st.obj t).2.blk (E t) = some b := fun j b hb => by
    cases hj : τ[j]? with
    | none =>
      have : os[j]? = none := List.getElem?_eq_none (by rw [hol]; exact List.getElem?_eq_none_iff.1 hj)
      unfold objL at hb
      rw [this] at hb
      simp [AObj.blk] at hb
    | some p =>
      obtain ⟨t, g⟩ := p
      obtain ⟨h1, o', h2, h3, h4⟩ := M.at_ j t g hj
      rw [h3, h4, oTo_blk h2] at hb
      exact ⟨t, g, rfl, hb⟩
  have hGS : ∀ k, S k → SG w os Eo k := fun k hk => ⟨hI.sltw k hk, fun ⟨j, hj⟩ => by
    obtain ⟨t, g, _, h2⟩ := hblk j k hj
    exact hI.own t k h2 hk⟩
  have hgrp : Grp Z w os Eo := by
    constructor
    · intro j
      cases hj : τ[j]? with
      | none =>
        have : os[j]? = none := List.getElem?_eq_none (by rw [hol]; exact List.getElem?_eq_none_iff.1 hj)
        unfold objL
        rw [this]
        trivial
      | some p =>
        obtain ⟨t, g⟩ := p
        obtain ⟨h1, o', h2, h3, h4⟩ := M.at_ j t g hj
        rw [h3, h4]
        exact (hI.obj t).to M h2
    · intro j j' b hne h1 h2
      obtain ⟨t, g, q1, q2⟩ := hblk j b h1
      obtain ⟨t', g', q3, q4⟩ := hblk j' b h2
      refine hI.apart t t' b (fun e => hne ?_) q2 q4
      exact hinj j j' (hjl j t g q1) (hjl j' t' g' q3) (by rw [hbk j t g q1, hbk j' t' g' q3, e])
  obtain ⟨hal, hag⟩ := ssTo_spec hargs
  refine heff Z w Eo a o next Q rfl rfl hgrp hI.zlt (by simpa using hal) (fun i s x h1 h2 => ?_) (fun w' hk => hI.gs w' (hI.below.trans (hk.mono hGS))) fun x Z' w' Eo' hp => ?_
  · obtain ⟨s0, h3, h4⟩ := hag i s h1
    rw [List.getElem?_map] at h3
    have h5 : o.op.operands.toList[i]? = some x := by simpa using h2
    rw [h5] at h3
    simp at h3
    subst h3
    exact (look_rep hI x).to M h4
  -- back
  let obj' := upd st.obj (uBk st.obj (o.dst.getD 0) off τ 0 os')
  let E' : Nat → Value := fun t => match (List.range os'.length).find? (fun j => bkS (o.dst.getD 0) off τ j == t) with | some j => Eo' j | none => E t
  have hE' : ∀ j, j < os'.length → E' (bkS (o.dst.getD 0) off τ j) = Eo' j := fun j hj => by
    simp only [E']
    cases hf : (List.range os'.length).find? (fun i => bkS (o.dst.getD 0) off τ i == bkS (o.dst.getD 0) off τ j) with
    | none =>
      rw [List.find?_eq_none] at hf
      exact absurd (by simp) (hf j (List.mem_range.2 hj))
    | some i =>
      have h1 := List.find?_some hf
      have h2 := List.mem_range.1 (List.mem_of_find?_eq_some hf)
      have : i = j := hinj i j h2 hj (by simpa using h1)
      rw [this]
  have hE'n : ∀ t, (∀ j, j < os'.length → t ≠ bkS (o.dst.getD 0) off τ j) → E' t = E t := fun t ht => by
    simp only [E']
    cases hf : (List.range os'.length).find? (fun i => bkS (o.dst.getD 0) off τ i == t) with
    | none => rfl
    | some i =>
      have h1 := List.find?_some hf
      have h2 := List.mem_range.1 (List.mem_of_find?_eq_some hf)
      exact absurd ((by simpa using h1 : bkS (o.dst.getD 0) off τ i = t).symm) (ht i h2)
  have hob : ∀ j g o1, os'[j]? = some (g, o1) → obj' (bkS (o.dst.getD 0) off τ j) = (bkG st.obj (o.dst.getD 0) off τ j g, oBk st.obj (o.dst.getD 0) off τ o1) := fun j g o1 hj => by
    have := upd_uBk_at (obj0 := st.obj) os' 0 j g o1 hnd hj
    rw [Nat.zero_add] at this
    exact this
  have hobn : ∀ t, (∀ j, j < os'.length → t ≠ bkS (o.dst.getD 0) off τ j) → obj' t = st.obj t := fun t ht => upd_uBk_ne os' 0 t (fun j hj => by rw [Nat.zero_add]; exact ht j hj)
  have B : Back st.obj (o.dst.getD 0) off τ os' Eo' obj' E' := ⟨fun j g o1 hj => ⟨hob j g o1 hj, hE' j (List.getElem?_eq_some_iff.1 hj).1⟩⟩
  have hget : ∀ j, j < os'.length → ∃ g o1, os'[j]? = some (g, o1) ∧ objL os' j = (g, o1) := fun j hj => ⟨os'[j].1, os'[j].2, List.getElem?_eq_getElem hj, by unfold objL; rw [List.getElem?_eq_getElem hj]⟩
  have hblk' : ∀ j, j < os'.length → ∀ b, (obj' (bkS (o.dst.getD 0) off τ j)).2.blk (E' (bkS (o.dst.getD 0) off τ j)) = some b → (objL os' j).2.blk (Eo' j) = some b := fun j hj b hb => by
    obtain ⟨g, o1, h1, h2⟩ := hget j hj
    rw [hob j g o1 h1, hE' j hj, oBk_blk] at hb
    rw [h2]; exact hb
  have hkS : Kept S w w' := hp.kept.mono hGS
  have hGB : ∀ t b, (∀ j, j < os'.length → t ≠ bkS (o.dst.getD 0) off τ j) → (st.obj t).2.blk (E t) = some b → ¬ GB os Eo b := fun t b ht hb ⟨j, hj⟩ => by
    obtain ⟨t', g', q1, q2⟩ := hblk j b hj
    exact hI.apart t t' b (fun e => ht j (hjl j t' g' q1) (by rw [hbk j t' g' q1, e])) hb q2
  have hGBS : ∀ b, GB os Eo b → ¬ S b := fun b hb hs => (hGS b hs).2 hb
  refine hn _ _ _ Z' E' x w' hK ?_
  refine hI.renew (fun t => ∃ j, j < os'.length ∧ t = bkS (o.dst.getD 0) off τ j) hd hkS hp.keeps hp.zlt (fun b o1 hz => ?_) (fun t ht => ?_) ?_ ?_ ?_ ?_ ?_ (hp.res.back B hrlt)
  · rcases hp.znew b o1 hz with h1 | h1 | h1
    · exact .inl h1
    · exact .inr (hI.fresh h1)
    · exact .inr (hGBS b h1)
  · have ht' : ∀ j, j < os'.length → t ≠ bkS (o.dst.getD 0) off τ j := fun j hj e => ht ⟨j, hj, e⟩
    exact ⟨hobn t ht', hE'n t ht'⟩
  · rintro t ⟨j, hj, rfl⟩
    obtain ⟨g, o1, h1, h2⟩ := hget j hj
    have hnone : o1 ≠ .none := fun e => by
      have := List.all_eq_true.1 hoslt _ (List.mem_of_getElem? h1)
      rw [e] at this
      cases this
    show (st.obj (bkS (o.dst.getD 0) off τ j)).1 < (obj' (bkS (o.dst.getD 0) off τ j)).1 ∨ ((obj' (bkS (o.dst.getD 0) off τ j)).1 = (st.obj (bkS (o.dst.getD 0) off τ j)).1 ∧ ((obj' (bkS (o.dst.getD 0) off τ j)).2 = .spent ∨ (E' (bkS (o.dst.getD 0) off τ j) = E (bkS (o.dst.getD 0) off τ j) ∧ SameKind (st.obj (bkS (o.dst.getD 0) off τ j)).2 (obj' (bkS (o.dst.getD 0) off τ j)).2)))
    rw [hob j g o1 h1]
    cases hτ : τ[j]? with
    | some p =>
      obtain ⟨t, g0⟩ := p
      obtain ⟨q1, o0, q2, q3, q4⟩ := M.at_ j t g0 hτ
      have hb := hbk j t g0 hτ
      rw [hb]
      have hG : bkG st.obj (o.dst.getD 0) off τ j g = g0 + g := by unfold bkG; rw [hτ]
      simp only [hG, q1]
      cases g with
      | succ g => exact .inl (by omega)
      | zero =>
        refine .inr ⟨rfl, ?_⟩
        have hEt : E' t = Eo' j := by rw [← hb]; exact hE' j hj
        have hg0 : (0 : Nat) ≤ (objL os j).1 := Nat.zero_le _
        have fin : SameKind o0 o1 → Eo' j = Eo j → (oBk st.obj (o.dst.getD 0) off τ o1 = .spent ∨ (E' t = E t ∧ SameKind (st.obj t).2 (oBk st.obj (o.dst.getD 0) off τ o1))) := fun hk he => .inr ⟨by rw [hEt, he, q4], hk.back q2⟩
        have hv : ∀ cs, (o1 = .var cs ∨ o1 = .ro cs ∨ o1 = .varx cs) → oBk st.obj (o.dst.getD 0) off τ o1 = .spent ∨ (E' t = E t ∧ SameKind (st.obj t).2 (oBk st.obj (o.dst.getD 0) off τ o1)) := fun cs ho1 => by
          obtain ⟨⟨cs0, hl⟩, he⟩ := hp.ok.var j 0 hg0 ⟨cs, by rw [h2]; simpa using ho1⟩
          rw [q3] at hl
          simp only [Prod.mk.injEq, true_and] at hl
          refine fin ?_ he
          rcases hl with rfl | rfl | rfl <;> rcases ho1 with rfl | rfl | rfl <;> trivial
        cases o1 with
        | none => exact absurd rfl hnone
        | spent => exact .inl rfl
        | var cs => exact hv cs (.inl rfl)
        | ro cs => exact hv cs (.inr (.inl rfl))
        | varx cs => exact hv cs (.inr (.inr rfl))
        | tok el sz =>
          obtain ⟨hl, he⟩ := hp.ok.tok j 0 el sz hg0 h2
          rw [q3] at hl
          simp only [Prod.mk.injEq, true_and] at hl
          subst hl
          exact fin ⟨rfl, rfl⟩ he
        | arr el sz ds foc =>
          obtain ⟨⟨ds0, foc0, hl⟩, he⟩ := hp.ok.arr j 0 el sz ds foc hg0 h2
          rw [q3] at hl
          simp only [Prod.mk.injEq, true_and] at hl
          subst hl
          exact fin ⟨rfl, rfl⟩ he
        | map es =>
          obtain ⟨⟨es0, hl⟩, he⟩ := hp.ok.map j 0 es hg0 h2
          rw [q3] at hl
          simp only [Prod.mk.injEq, true_and] at hl
          subst hl
          exact fin trivial he
    | none =>
      have hG : bkG st.obj (o.dst.getD 0) off τ j g = (st.obj (bkS (o.dst.getD 0) off τ j)).1 + g := by unfold bkG bkS; rw [hτ]
      simp only [hG]
      cases g with
      | succ g => exact .inl (by omega)
      | zero =>
        refine .inr ⟨rfl, .inl ?_⟩
        have hoj : objL os j = (0, .none) := by
          have : os[j]? = none := List.getElem?_eq_none (by rw [hol]; exact List.getElem?_eq_none_iff.1 hτ)
          unfold objL; rw [this]
        have hg0 : (0 : Nat) ≤ (objL os j).1 := Nat.zero_le _
        have hv : ∀ cs, ¬ (o1 = .var cs ∨ o1 = .ro cs ∨ o1 = .varx cs) := fun cs ho1 => by
          obtain ⟨⟨cs0, hl⟩, _⟩ := hp.ok.var j 0 hg0 ⟨cs, by rw [h2]; simpa using ho1⟩
          rw [hoj] at hl
          simp at hl
        cases o1 with
        | none => exact absurd rfl hnone
        | spent => rfl
        | var cs => exact absurd (.inl rfl) (hv cs)
        | ro cs => exact absurd (.inr (.inl rfl)) (hv cs)
        | varx cs => exact absurd (.inr (.inr rfl)) (hv cs)
        | tok el sz => obtain ⟨hl, _⟩ := hp.ok.tok j 0 el sz hg0 h2; rw [hoj] at hl; simp at hl
        | arr el sz ds foc => obtain ⟨⟨ds0, foc0, hl⟩, _⟩ := hp.ok.arr j 0 el sz ds foc hg0 h2; rw [hoj] at hl; simp at hl
        | map es => obtain ⟨⟨es0, hl⟩, _⟩ := hp.ok.map j 0 es hg0 h2; rw [hoj] at hl; simp at hl
  · rintro _ t ⟨j, hj, rfl⟩
    obtain ⟨g, o1, h1, h2⟩ := hget j hj
    show ObjOk Z' w' obj' E' (E' _) (obj' _).2
    rw [hob j g o1 h1, hE' j hj]
    have := hp.grp.ok j
    rw [h2] at this
    exact this.back B (List.all_eq_true.1 hoslt _ (List.mem_of_getElem? h1))
  · intro t ht b hb
    have ht' : ∀ j, j < os'.length → t ≠ bkS (o.dst.getD 0) off τ j := fun j hj e => ht ⟨j, hj, e⟩
    have hlt := (hI.obj t).lt hb
    have hng := hGB t b ht' hb
    refine ⟨hp.kept.block b ⟨hlt, hng⟩, fun k hz => ?_, ?_⟩
    · rcases hp.znew b k hz with h1 | h1 | h1
      · exact h1
      · omega
      · exact absurd h1 hng
    · rintro s ⟨j, hj, rfl⟩ hb'
      rcases hp.own b ⟨j, hblk' j hj b hb'⟩ with h1 | h1
      · omega
      · exact hng h1
  · rintro t t' b ⟨j, hj, rfl⟩ ⟨j', hj', rfl⟩ hne h1 h2
    exact hp.grp.apart j j' b (fun e => hne (by rw [e])) (hblk' j hj b h1) (hblk' j' hj' b h2)
  · rintro t ⟨j, hj, rfl⟩ b hb
    rcases hp.own b ⟨j, hblk' j hj b hb⟩ with h1 | h1
    · exact hI.fresh h1
    · exact hGBS b h1

/-- All rules together. -/
theorem o_sound2 (hT : TOk P T) (o : Oper) (Z0 : Base) (w0 : World) (S : Nat → Prop) (n : Nat) (Z : Zone) (E : Nat → Value) (st : St) (a : Act) (w : World) (K : KOp) (next : Act → World → Prop) (Q : Exit → Act → World → Prop)
    (hI : Inv G Z0 w0 S n Z E st a w) (hd : inRange n o.dst = true) (h : wpO2 (orc P G) T (look st) st.obj o.dst o.op o.type K)
    (hn : ∀ r rd u Z' E' x w', K r rd u → Inv G Z0 w0 S n Z' E' ⟨put st.env o.dst r, upd st.obj u⟩ (a.put o.dst x) w' → next (a.put o.dst x) w') : o.wp P a w next Q :=
  h.elim (fun h => op_sound hT o Z0 w0 S n Z E st a w K next Q _ hI hd h (fun hx => x_sound hT o Z0 w0 S n Z E st a w K next Q hI hd hx hn) hn) (fun h => eff_sound o hI hd h hn)
theorem o_sound (hT : TOk P T) (o : Oper) (Z0 : Base) (w0 : World) (S : Nat → Prop) (n : Nat) (Z : Zone) (E : Nat → Value) (st : St) (a : Act) (w : World) (K : KOp) (next : Act → World → Prop) (Q : Exit → Act → World → Prop)
    (hI : Inv G Z0 w0 S n Z E st a w) (hd : inRange n o.dst = true) (h : wpO (orc P G) T (look st) st.obj o.dst o.op o.type K)
    (hn : ∀ r rd u Z' E' x w', K r rd u → Inv G Z0 w0 S n Z' E' ⟨put st.env o.dst r, upd st.obj u⟩ (a.put o.dst x) w' → next (a.put o.dst x) w') : o.wp P a w next Q :=
  by
  have h0 : wpO0 (orc P G) T (look st) st.obj o.dst o.op o.type K → o.wp P a w next Q := fun h =>
    op_sound hT o Z0 w0 S n Z E st a w K next Q _ hI hd h (fun hx => hx.elim (fun hx => x_sound hT o Z0 w0 S n Z E st a w K next Q hI hd hx hn) (fun hx => eff_sound o hI hd hx hn)) hn
  unfold wpO at h
  cases hb : effFirst o.op with
  | true => rw [hb] at h; exact h.elim h0 (fun hx => eff_sound o hI hd hx hn)
  | false => rw [hb] at h; exact h0 h
end
end Go.Abs
