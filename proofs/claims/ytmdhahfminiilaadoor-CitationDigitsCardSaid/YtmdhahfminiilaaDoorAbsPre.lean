import Derived.Test.YtmdhahfminiilaaDoorAbsDraw2
import Derived.Laws.Cover3
import Derived.RangeFuncLeaves
set_option linter.unusedVariables false
set_option linter.unusedSimpArgs false
/-
  Soundness of the abstract weakest precondition: regions, code, functions.
-/
namespace Go.Abs
open Go Go.RowKit

section
variable {P : Program} {G : World → Prop} {T : Tab} {Z0 : Base} {w0 : World} {S : Nat → Prop} {n : Nat} {Z Z' : Zone} {E : Nat → Value} {st : St} {a : Act} {w w' : World}

theorem run_eql_nilS (w : World) (t e : TypeId) (a : Option Addr) (l c : Nat) (h : P.underlying t = some (.slice e)) : (binOp .eql t (.slice a l c) (.slice none 0 0)).run P w = .ok (.bool a.isNone) w := by
  simp only [binOp]
  simp [run_equal_slice_nil w t e a l c h]
theorem nil_sound (hT : TOk P T) {o : Oper} {q : Bool} {t : TypeId} {x : Operand} {K : SV → Prop} {next : Act → World → Prop} {Q : Exit → Act → World → Prop} (hI : Inv G Z0 w0 S n Z E st a w) (hd : inRange n o.dst = true)
    (hq : nilCmp o.op = some (q, t, x)) (h : wpNil T st q t x K) (hn : ∀ r x, K r → Inv G Z0 w0 S n Z E ⟨put st.env o.dst r, st.obj⟩ (a.put o.dst x) w → next (a.put o.dst x) w) : Oper.wpE P o a w next Q := by
  unfold wpNil at h
  split at h
  · rename_i ds hs
    unfold slOf at hs
    split at hs
    · rename_i e _ _ _ _ _ hT'
      have hu := (hT _ _ hT').u
      simp only at hu
      -- the slice is nil only where it has no elements
      have hx : ∃ aa l k, a.eval x = .slice aa l k ∧ (aa = none → ds = []) := by
        have hx := look_rep hI x
        split at hs
        · rename_i s g he
          rw [he] at hx
          split at hs
          · rename_i g' el sz ds' foc ho
            cases hb : Nat.beq g g' with
            | false => rw [hb] at hs; cases hs
            | true =>
              rw [hb] at hs
              have hgg := Nat.eq_of_beq_eq_true hb
              subst hgg
              simp only [cond_true, Option.some.injEq] at hs
              subst hs
              have hobj := hI.obj s
              rw [ho] at hobj
              obtain ⟨xs, hszp, hown, _⟩ := hobj
              generalize a.eval x = y at hx
              cases hx with
              | rs _ _ _ hs hg hp' =>
                rw [hp' _ _ _ _ ho] at hown
                rcases hown.2 with ⟨hy, h0⟩ | ⟨b, cap, cur, hy, _⟩
                · exact ⟨_, _, _, hy, fun _ => List.eq_nil_of_length_eq_zero h0⟩
                · exact ⟨_, _, _, hy, fun h => by cases h⟩
          · cases hs
        · have hsl : ∃ sz, asSl (look st x) = some (sz, ds) := by
            cases hq : asSl (look st x) with
            | none => rw [hq] at hs; cases hs
            | some p => obtain ⟨sz, d⟩ := p; rw [hq] at hs; simp at hs; subst hs; exact ⟨sz, rfl⟩
          obtain ⟨sz, hsl⟩ := hsl
          have hr : Rep Z w (.sl sz ds) (a.eval x) := by
            generalize look st x = s at hx hsl
            unfold asSl at hsl
            split at hsl
            · simp only [Option.some.injEq, Prod.mk.injEq] at hsl
              obtain ⟨rfl, rfl⟩ := hsl
              cases hx with | c _ _ h => exact h
            · simp only [Option.some.injEq, Prod.mk.injEq] at hsl
              obtain ⟨rfl, rfl⟩ := hsl
              cases hx with | ap _ _ _ _ _ h _ _ => exact h
            · cases hsl
          generalize a.eval x = y at hr
          cases hr with
          | nil _ aa cap => exact ⟨_, _, _, rfl, fun _ => rfl⟩
          | sl _ _ b o cap f => exact ⟨_, _, _, rfl, fun h => by cases h⟩
      obtain ⟨aa, l, k, hx, hnil⟩ := hx
      have hb := h aa.isNone (fun h => hnil (Option.isNone_iff_eq_none.1 h))
      obtain ⟨dst, op, type, pos, after, guard⟩ := o
      simp only at hq hd hn
      unfold nilCmp at hq
      split at hq
      · rename_i t' x' z
        simp only [Option.some.injEq, Prod.mk.injEq] at hq
        obtain ⟨rfl, rfl, rfl⟩ := hq
        refine wp_value (x := .bool aa.isNone) ?_ (hn _ _ hb (hI.value hd ?_))
        · simp only [execOp, hx, Sem.run_bind]
          simp [Act.eval, eqGuard, run_eql_nilS (w := w) t' _ aa l k hu]
        · cases aa.isNone <;> first | exact .kt | exact .kf
      · rename_i t' x' z
        simp only [Option.some.injEq, Prod.mk.injEq] at hq
        obtain ⟨rfl, rfl, rfl⟩ := hq
        refine wp_value (x := .bool (!aa.isNone)) ?_ (hn _ _ hb (hI.value hd ?_))
        · simp only [execOp, hx, Sem.run_bind]
          simp [Act.eval, eqGuard, run_neq_slice_nil (w := w) t' _ aa l k hu]
        · cases aa.isNone <;> first | exact .kt | exact .kf
      · cases hq
    · cases hs
  · obtain ⟨hlk, ht, hk⟩ := h
    have hx : a.eval x = .slice none 0 0 := by
      have := look_rep hI x
      rw [hlk] at this
      exact rep_cv this
    split at ht
    rotate_left
    · exact ht.elim
    rename_i hT'
    have hu := (hT _ _ hT').u
    simp only at hu
    obtain ⟨dst, op, type, pos, after, guard⟩ := o
    simp only at hq hd hn
    unfold nilCmp at hq
    split at hq
    · simp only [Option.some.injEq, Prod.mk.injEq] at hq
      obtain ⟨rfl, rfl, rfl⟩ := hq
      refine wp_value (x := .bool true) ?_ (hn _ _ hk (hI.value hd .kt))
      simp only [execOp, hx, Sem.run_bind]
      simp [Act.eval, eqGuard, run_eql_nilS (w := w) _ _ none 0 0 hu]
    · simp only [Option.some.injEq, Prod.mk.injEq] at hq
      obtain ⟨rfl, rfl, rfl⟩ := hq
      refine wp_value (x := .bool false) ?_ (hn _ _ hk (hI.value hd .kf))
      simp only [execOp, hx, Sem.run_bind]
      simp [Act.eval, eqGuard, run_neq_slice_nil (w := w) _ _ none 0 0 hu]
    · cases hq

theorem wpOps_sound (hT : TOk P T) (all : List Oper) {ρ : Option Nat} {Q : Exit → Act → World → Prop} {K : St → Prop} (hK : ∀ Z' E' st' a' w', K st' → Inv G Z0 w0 S n Z' E' st' a' w' → Q .normal a' w') :
    ∀ (l : List Oper) (Z : Zone) (E : Nat → Value) (st : St) (a : Act) (w : World), Inv G Z0 w0 S n Z E st a w → wpOps (orc P G) T n all l st K → wpListIn (FnR ρ) 0 P all.toArray Q l a w
  | [], Z, E, st, a, w, hI, h => hK _ _ _ _ _ h hI
  | o :: rest, Z, E, st, a, w, hI, h => by
    simp only [wpOps] at h
    replace h := bif_true h
    obtain ⟨hd, h⟩ := h
    have exec : ∀ (st : St), Inv G Z0 w0 S n Z E st a w → (wpO (orc P G) T (look st) st.obj o.dst o.op o.type fun r _ u => wpOps (orc P G) T n all rest ⟨put st.env o.dst r, upd st.obj u⟩ K) →
        Region.wanted o (yielded all.toArray a.tmps) = true → wpListIn (FnR ρ) 0 P all.toArray Q (o :: rest) a w := by
      intro st hI h hw
      unfold wpListIn
      rw [if_pos hw]
      exact (o_sound hT o Z0 w0 S n Z E st a w _ _ _ hI hd h fun r _ u Z' E' x w' hk hI' => wpOps_sound hT all hK rest Z' E' _ _ w' hI' hk) ρ
    have pass : ∀ (st : St), Inv G Z0 w0 S n Z E st a w → wpOps (orc P G) T n all rest ⟨put st.env o.dst .un, st.obj⟩ K → Region.wanted o (yielded all.toArray a.tmps) = false → wpListIn (FnR ρ) 0 P all.toArray Q (o :: rest) a w := by
      intro st hI h hw
      unfold wpListIn
      rw [if_neg (by simp [hw])]
      exact ⟨fun _ _ => trivial, wpOps_sound hT all hK rest Z E _ _ w (hI.value (x := undef) hd .un) h⟩
    cases hg : o.guard with
    | none =>
      rw [hg] at h
      simp only at h
      split at h
      · rename_i q t x hq
        unfold wpListIn
        rw [if_pos (by simp [Region.wanted, hg])]
        exact (nil_sound hT hI hd hq h fun r x' hk hI' => wpOps_sound hT all hK rest Z E _ _ w hI' hk) ρ
      · exact exec st hI h (by simp [Region.wanted, hg])
    | some jw =>
      obtain ⟨j, want⟩ := jw
      rw [hg] at h
      simp only at h
      split at h
      · exact h.elim
      · rename_i dj hdj
        have hdj' : (all.toArray[j]?).bind (·.dst) = some dj := by simpa using hdj
        have wnt : ∀ b, a.tmps.getD dj undef = .bool b → Region.wanted o (yielded all.toArray a.tmps) = (some b == some want) := fun b hb => by
          simp [Region.wanted, hg, yielded_of hdj' hb]
        have henv := hI.env dj
        split at h
        · rename_i he
          rw [he] at henv
          have hv : a.tmps.getD dj undef = .bool true := by generalize a.tmps.getD dj undef = y at henv; cases henv; rfl
          cases want with
          | true => exact exec st hI h (by rw [wnt _ hv]; rfl)
          | false => exact pass st hI h (by rw [wnt _ hv]; rfl)
        · rename_i he
          rw [he] at henv
          have hv : a.tmps.getD dj undef = .bool false := by generalize a.tmps.getD dj undef = y at henv; cases henv; rfl
          cases want with
          | true => exact pass st hI h (by rw [wnt _ hv]; rfl)
          | false => exact exec st hI h (by rw [wnt _ hv]; rfl)
        · rename_i b he
          rw [he] at henv
          have hv : a.tmps.getD dj undef = .bool b := rep_cv henv
          cases b with
          | true =>
            have h1 := h.1 rfl
            have hI' := hI.know (d := dj) (r := .kt) (by rw [hv]; exact .kt)
            cases want with
            | true => exact exec _ hI' h1 (by rw [wnt _ hv]; rfl)
            | false => exact pass _ hI' h1 (by rw [wnt _ hv]; rfl)
          | false =>
            have h1 := h.2 rfl
            have hI' := hI.know (d := dj) (r := .kf) (by rw [hv]; exact .kf)
            cases want with
            | true => exact pass _ hI' h1 (by rw [wnt _ hv]; rfl)
            | false => exact exec _ hI' h1 (by rw [wnt _ hv]; rfl)
        · rename_i he
          rw [he] at henv
          have hv : a.tmps.getD dj undef = undef := by generalize a.tmps.getD dj undef = y at henv; cases henv; rfl
          exact pass st hI h (by simp [Region.wanted, hg, yielded_un hdj' hv])
        · exact h.elim

theorem live1_rep {obj obj' : Objs} {c : CV} {x : Value} (h : RepX1 Z w obj E c x) (hl : live1 obj c = true) : RepX1 Z w obj' E (normC1 c) x := by
  cases h with
  | cl h => have hn := h.notRs; cases c <;> first | exact .cl h | (simp [CV.isRs] at hn)
  | rs t g x hs hg h =>
    simp only [live1] at hl
    split at hl
    · rename_i g' el sz ds foc ho
      have := Nat.eq_of_beq_eq_true hl
      subst this
      exact .rs _ _ x hs (Nat.zero_le _) fun _ _ _ _ _ => h _ _ _ _ ho
    · cases hl
  | pr t g off x hs hg h =>
    have : live obj t g := by
      simp only [live1] at hl
      split at hl
      · rename_i g' cs ho; have := Nat.eq_of_beq_eq_true hl; subst this; exact ⟨cs, .inl ho⟩
      · rename_i g' cs ho; have := Nat.eq_of_beq_eq_true hl; subst this; exact ⟨cs, .inr (.inl ho)⟩
      · rename_i g' cs ho; have := Nat.eq_of_beq_eq_true hl; subst this; exact ⟨cs, .inr (.inr ho)⟩
      · cases hl
    exact .pr _ _ _ x hs (Nat.zero_le _) fun _ => h this
  | mr t g x hs hg h =>
    simp only [live1] at hl
    split at hl
    · rename_i g' es ho
      have := Nat.eq_of_beq_eq_true hl
      subst this
      exact .mr _ _ x hs (Nat.zero_le _) fun _ _ => h _ ho
    · cases hl
  | xr t g x hs hg h =>
    simp only [live1] at hl
    split at hl
    · rename_i g' K cs ho
      have := Nat.eq_of_beq_eq_true hl
      subst this
      exact .xr _ _ x hs (Nat.zero_le _) fun _ _ _ => h _ _ ho
    · cases hl
  | bp T f x hs => exact .bp T f x hs
theorem normCV_rep {obj obj' : Objs} {c : CV} {x : Value} (h : RepX Z w obj E c x) (hl : liveF obj c = true) : RepX Z w obj' E (normCV c) x := by
  cases h with
  | one h =>
    by_cases hf : ∃ f caps, c = .fr f caps
    · obtain ⟨f, caps, rfl⟩ := hf; cases h with | cl h => cases h
    · have e1 : liveF obj c = live1 obj c := by cases c <;> first | rfl | exact absurd ⟨_, _, rfl⟩ hf
      have e2 : normCV c = normC1 c := by cases c <;> first | rfl | exact absurd ⟨_, _, rfl⟩ hf
      rw [e1] at hl
      rw [e2]
      exact .one (live1_rep h hl)
  | fr f caps vs hlen h =>
    refine .fr f _ vs (by simpa using hlen) fun i c x h1 h2 => ?_
    rw [List.getElem?_map] at h1
    cases hk : caps[i]? with
    | none => rw [hk] at h1; simp at h1
    | some c0 => rw [hk] at h1; simp at h1; subst h1; exact live1_rep (h i c0 x hk h2) (all_get (show caps.all (live1 obj) = true from hl) hk)
theorem normCV_bp {c : CV} {T : Nat} {f : Bool} (h : normCV c = .bp T f) : c = .bp T f := by
  cases c <;> simp [normCV, normC1] at h ⊢ <;> exact h
theorem normCV_atom (c : CV) : (normCV c).atom = c.atom := by cases c <;> rfl

theorem normO_live {obj : Objs} {o : AObj} {cs : List CV} (h : normO obj o = .var cs ∨ normO obj o = .ro cs ∨ normO obj o = .varx cs) : ∃ cs0, o = .var cs0 ∨ o = .ro cs0 ∨ o = .varx cs0 := by
  unfold normO at h
  split at h
  · exact ⟨_, .inr (.inr rfl)⟩
  · cases hl : liveC obj _ with
    | true => rw [hl] at h; simp at h
    | false => rw [hl] at h; simp at h
  · cases hl : liveC obj _ with
    | true => rw [hl] at h; simp at h
    | false => rw [hl] at h; simp at h
  · rcases h with h | h | h
    · exact ⟨_, .inl h⟩
    · exact ⟨_, .inr (.inl h)⟩
    · exact ⟨_, .inr (.inr h)⟩
theorem normO_arr {obj : Objs} {o : AObj} {el sz : Nat} {ds : List (List CV)} {foc : Option (Nat × List CV)} (h : normO obj o = .arr el sz ds foc) : ∃ foc0, o = .arr el sz ds foc0 := by
  unfold normO at h
  split at h
  · cases hl : liveC obj _ with
    | true => rw [hl] at h; simp at h
    | false => rw [hl] at h; simp at h
  · cases hl : liveC obj _ with
    | true => rw [hl] at h; simp at h
    | false => rw [hl] at h; simp at h
  · cases hl : liveC obj _ with
    | true => rw [hl] at h; simp at h; obtain ⟨rfl, rfl, rfl, _⟩ := h; exact ⟨_, rfl⟩
    | false => rw [hl] at h; simp at h
  · exact ⟨_, h⟩
theorem normO_tok {obj : Objs} {o : AObj} {el sz : Nat} (h : normO obj o = .tok el sz) : o = .tok el sz := by
  unfold normO at h
  split at h
  · cases hl : liveC obj _ with
    | true => rw [hl] at h; simp at h
    | false => rw [hl] at h; simp at h
  · cases hl : liveC obj _ with
    | true => rw [hl] at h; simp at h
    | false => rw [hl] at h; simp at h
  · cases hl : liveC obj _ with
    | true => rw [hl] at h; simp at h
    | false => rw [hl] at h; simp at h
  · exact h
theorem normO_map {obj : Objs} {o : AObj} {es : List (CV × CV)} (h : normO obj o = .map es) : o = .map es := by
  unfold normO at h
  split at h
  · cases hl : liveC obj _ with
    | true => rw [hl] at h; simp at h
    | false => rw [hl] at h; simp at h
  · cases hl : liveC obj _ with
    | true => rw [hl] at h; simp at h
    | false => rw [hl] at h; simp at h
  · cases hl : liveC obj _ with
    | true => rw [hl] at h; simp at h
    | false => rw [hl] at h; simp at h
  · exact h
theorem normO_ext {obj : Objs} {o : AObj} {K : ExtK} {cs : List CV} (h : normO obj o = .ext K cs) : ∃ cs0, o = .ext K cs0 := by
  unfold normO at h
  split at h
  · cases hl : liveC obj _ with
    | true => rw [hl] at h; simp at h
    | false => rw [hl] at h; simp at h
  · cases hl : liveC obj _ with
    | true => rw [hl] at h; simp at h; obtain ⟨rfl, _⟩ := h; exact ⟨_, rfl⟩
    | false => rw [hl] at h; simp at h
  · cases hl : liveC obj _ with
    | true => rw [hl] at h; simp at h
    | false => rw [hl] at h; simp at h
  · exact ⟨_, h⟩
theorem Inv.weak (hI : Inv G Z0 w0 S n Z E st a w) {st' : St} (hw : Weak st st') : Inv G Z0 w0 S n Z E st' a w := by
  obtain ⟨h1, h2x⟩ := hw
  have h2 : ∀ s, st'.obj s = (0, .none) ∨ st'.obj s = (0, normO st.obj (st.obj s).2) := fun s => by
    rcases h2x s with h | h
    · exact .inl h
    · unfold normOx at h
      cases hb : (Nat.blt s PIN || Nat.beq (st.obj s).1 0) with
      | true => rw [hb] at h; exact .inr h
      | false => rw [hb] at h; exact .inl h
  have hpin : ∀ s o, Nat.blt s PIN = false → st'.obj s = (0, o) → o ≠ .none → st.obj s = (0, (st.obj s).2) ∧ normO st.obj (st.obj s).2 = o := fun s o hs he hne => by
    rcases h2x s with h | h
    · rw [h] at he; simp at he; exact absurd he.symm hne
    · unfold normOx at h
      rw [hs, Bool.false_or] at h
      cases hb : Nat.beq (st.obj s).1 0 with
      | true =>
        rw [hb] at h
        rw [h] at he
        exact ⟨Prod.ext (Nat.eq_of_beq_eq_true hb) rfl, by simpa using he⟩
      | false => rw [hb] at h; rw [h] at he; simp at he; exact absurd he.symm hne
  have hpk : PinKeep Z0.obj Z0.E st'.obj E := by
    constructor
    · intro t ht hl
      refine hI.pin.var t ht ?_
      obtain ⟨cs, hl⟩ := hl
      have : ∃ o, st'.obj t = (0, o) ∧ o ≠ .none ∧ (o = .var cs ∨ o = .ro cs ∨ o = .varx cs) := by
        rcases hl with h | h | h
        · exact ⟨_, h, by simp, .inl rfl⟩
        · exact ⟨_, h, by simp, .inr (.inl rfl)⟩
        · exact ⟨_, h, by simp, .inr (.inr rfl)⟩
      obtain ⟨o, q1, q2, q3⟩ := this
      obtain ⟨q4, q5⟩ := hpin t o ht q1 q2
      rw [← q5] at q3
      obtain ⟨cs0, q6⟩ := normO_live q3
      refine ⟨cs0, ?_⟩
      rcases q6 with h | h | h
      · exact .inl (q4.trans (by rw [h]))
      · exact .inr (.inl (q4.trans (by rw [h])))
      · exact .inr (.inr (q4.trans (by rw [h])))
    · intro t el s ht hl
      obtain ⟨q4, q5⟩ := hpin t _ ht hl (by simp)
      exact hI.pin.tok t el s ht (q4.trans (by rw [normO_tok q5]))
    · intro t el sz ds foc ht hl
      obtain ⟨q4, q5⟩ := hpin t _ ht hl (by simp)
      obtain ⟨f0, q6⟩ := normO_arr q5
      exact hI.pin.arr t el sz ds f0 ht (q4.trans (by rw [q6]))
    · intro t es ht hl
      obtain ⟨q4, q5⟩ := hpin t _ ht hl (by simp)
      exact hI.pin.map t es ht (q4.trans (by rw [normO_map q5]))
    · intro t K cs ht hl
      obtain ⟨q4, q5⟩ := hpin t _ ht hl (by simp)
      obtain ⟨f0, q6⟩ := normO_ext q5
      exact hI.pin.ext t K f0 ht (q4.trans (by rw [q6]))
  have hblkN : ∀ (o : AObj) (e : Value) (b : Nat), (normO st.obj o).blk e b → o.blk e b := by
    intro o e b h
    unfold normO at h
    split at h
    · rename_i cs
      cases hl : liveC st.obj cs with
      | true => rw [hl] at h; cases e <;> first | exact h | (rename_i aa _ _; cases aa <;> exact h) | (rename_i aa; cases aa <;> exact h)
      | false => rw [hl] at h; simp [AObj.blk] at h
    · rename_i K cs
      cases hl : liveC st.obj cs with
      | true => rw [hl] at h; exact h
      | false => rw [hl] at h; simp [AObj.blk] at h
    · rename_i el sz ds m cs
      cases hl : liveC st.obj cs with
      | true => rw [hl] at h; cases e <;> first | exact h | (rename_i aa _ _; cases aa <;> exact h) | (rename_i aa; cases aa <;> exact h)
      | false => rw [hl] at h; simp [AObj.blk] at h
    · exact h
  have hblk : ∀ s b, (st'.obj s).2.blk (E s) b → (st.obj s).2.blk (E s) b := fun s b hb => by
    rcases h2 s with h | h
    · rw [h] at hb; simp [AObj.blk] at hb
    · rw [h] at hb; exact hblkN _ _ _ hb
  have hnorm : ∀ (s : SV) (x : Value), RepS Z w st.obj E s x → RepS Z w st'.obj E (normS1 st.obj s) x := by
    intro s x henv
    cases henv with
    | any x => exact .any x
    | un => exact .un
    | kt => exact .c _ _ (.v _)
    | kf => exact .c _ _ (.v _)
    | c c x h => exact .c c x h
    | fnr f caps vs => exact .any _
    | agx cs vs => exact .any _
    | tpx cs vs => exact .any _
    | ss t g lo => exact .any _
    | ap t' g sz es x hrep hg ht =>
      simp only [normS1]
      split
      · rename_i g' el z ho
        cases hb : Nat.beq g g' with
        | true =>
          have := Nat.eq_of_beq_eq_true hb
          subst this
          exact .ap _ _ _ _ _ hrep (Nat.zero_le _) fun el' z' _ => ht _ _ ho
        | false => exact .c _ _ hrep
      · exact .c _ _ hrep
    | pm t' g off x hs hg hl =>
      simp only [normS1]
      split
      · rename_i g' cs ho
        cases hb : Nat.beq g g' with
        | true =>
          have := Nat.eq_of_beq_eq_true hb
          subst this
          exact .pm _ _ _ _ hs (Nat.zero_le _) fun _ => hl ⟨cs, .inl ho⟩
        | false => exact .any _
      · rename_i g' cs ho
        cases hb : Nat.beq g g' with
        | true =>
          have := Nat.eq_of_beq_eq_true hb
          subst this
          exact .pm _ _ _ _ hs (Nat.zero_le _) fun _ => hl ⟨cs, .inr (.inl ho)⟩
        | false => exact .any _
      · rename_i g' cs ho
        cases hb : Nat.beq g g' with
        | true =>
          have := Nat.eq_of_beq_eq_true hb
          subst this
          exact .pm _ _ _ _ hs (Nat.zero_le _) fun _ => hl ⟨cs, .inr (.inr ho)⟩
        | false => exact .any _
      · exact .any _
    | rs t' g x hs hg hE =>
      simp only [normS1]
      split
      · rename_i g' el sz ds foc ho
        cases hb : Nat.beq g g' with
        | true =>
          have := Nat.eq_of_beq_eq_true hb
          subst this
          exact .rs _ _ _ hs (Nat.zero_le _) fun _ _ _ _ _ => hE _ _ _ _ ho
        | false => exact .any _
      · exact .any _
    | mr t' g x hs hg hE =>
      simp only [normS1]
      split
      · rename_i g' es ho
        cases hb : Nat.beq g g' with
        | true =>
          have := Nat.eq_of_beq_eq_true hb
          subst this
          exact .mr _ _ _ hs (Nat.zero_le _) fun _ _ => hE _ ho
        | false => exact .any _
      · exact .any _
    | xr t' g x hs hg hE =>
      simp only [normS1]
      split
      · rename_i g' K cs ho
        cases hb : Nat.beq g g' with
        | true =>
          have := Nat.eq_of_beq_eq_true hb
          subst this
          exact .xr _ _ _ hs (Nat.zero_le _) fun _ _ _ => hE _ _ ho
        | false => exact .any _
      · exact .any _
    | xf t' g f x hg hE => exact .any _
    | pe t' g m off x hg hE =>
      simp only [normS1]
      split
      · rename_i g' el sz ds foc ho
        cases hb : Nat.beq g g' with
        | true =>
          have := Nat.eq_of_beq_eq_true hb
          subst this
          refine .pe _ _ _ _ _ (Nat.zero_le _) fun el' sz' ds' foc' he => ?_
          have hsz : sz' = sz := by
            rcases h2 t' with h | h
            · rw [h] at he; simp at he
            · rw [h, ho] at he
              simp only [Prod.mk.injEq, true_and] at he
              cases foc with
              | none => simp only [normO, AObj.arr.injEq] at he; exact he.2.1.symm
              | some p =>
                obtain ⟨k, cs⟩ := p
                simp only [normO] at he
                cases hlv : liveC st.obj cs with
                | true => rw [hlv] at he; simp only [cond_true, AObj.arr.injEq] at he; exact he.2.1.symm
                | false => rw [hlv] at he; simp at he
          subst hsz
          exact hE _ _ _ _ ho
        | false => exact .any _
      · exact .any _
  refine { hI with pin := hpk, env := fun t => ?_, obj := fun t => ?_, own := fun t b hb => hI.own t b (hblk t b hb), apart := fun t t' b hne ha hb => hI.apart t t' b hne (hblk t b ha) (hblk t' b hb) }
  · rcases h1 t with h | h
    · rw [h]; exact .any _
    · rw [h]
      have henv := hI.env t
      generalize a.tmps.getD t undef = x at henv
      generalize st.env t = s at henv
      by_cases hf : ∃ f caps, s = .fnr f caps
      · obtain ⟨f, caps, rfl⟩ := hf
        cases henv with
        | fnr _ _ vs hf hl hh =>
          refine .fnr f _ vs hf (by simpa using hl) fun i c y q1 q2 => ?_
          rw [List.getElem?_map] at q1
          cases hk : caps[i]? with
          | none => rw [hk] at q1; simp at q1
          | some c0 => rw [hk] at q1; simp at q1; subst q1; exact hnorm c0 y (hh i c0 y hk q2)
      · have e2 : normSV st.obj s = normS1 st.obj s := by cases s <;> first | rfl | exact absurd ⟨_, _, rfl⟩ hf
        rw [e2]
        exact hnorm s x henv
  · have hot := hI.obj t
    rcases h2 t with h | h
    · rw [h]; trivial
    · rw [h]
      show ObjOk Z w st'.obj E (E t) (normO st.obj (st.obj t).2)
      cases ho : (st.obj t).2 with
      | none => trivial
      | spent => trivial
      | var cs => rw [ho] at hot; exact hot
      | ro cs => rw [ho] at hot; exact hot
      | tok el sz => rw [ho] at hot; exact hot
      | map es => rw [ho] at hot; exact hot
      | lp l R q => rw [ho] at hot; exact hot
      | ext K cs =>
        rw [ho] at hot
        simp only [normO]
        cases hl : liveC st.obj cs with
        | false => trivial
        | true =>
          obtain ⟨us, hu, hc, hz⟩ := hot
          refine ⟨us, by simpa using hu, fun j c hj => ?_, hz⟩
          rw [List.getElem?_map] at hj
          cases hcj : cs[j]? with
          | none => rw [hcj] at hj; simp at hj
          | some c0 =>
            rw [hcj] at hj
            simp at hj
            subst hj
            obtain ⟨x, q2, q3⟩ := hc j c0 hcj
            exact ⟨x, q2, normCV_rep q3 (all_get hl hcj)⟩
      | varx cs =>
        rw [ho] at hot
        simp only [normO]
        cases hl : liveC st.obj cs with
        | false => trivial
        | true =>
          obtain ⟨b, el, arr, he, hh, hs, hc, hz⟩ := hot
          refine ⟨b, el, arr, he, hh, by simpa using hs, fun j c hj => ?_, hz.1, hz.2.same fun j T f hj => ?_⟩
          rotate_left
          · rw [List.getElem?_map] at hj
            cases hk : cs[j]? with
            | none => rw [hk] at hj; simp at hj
            | some c0 => rw [hk] at hj; simp at hj; rw [normCV_bp hj]
          rw [List.getElem?_map] at hj
          cases hcj : cs[j]? with
          | none => rw [hcj] at hj; simp at hj
          | some c0 =>
            rw [hcj] at hj
            simp at hj
            subst hj
            obtain ⟨q1, x, q2, q3⟩ := hc j c0 hcj
            exact ⟨by rw [normCV_atom]; exact q1, x, q2, normCV_rep q3 (all_get hl hcj)⟩
      | arr el sz ds foc =>
        rw [ho] at hot
        cases foc with
        | none =>
          simp only [normO]
          obtain ⟨xs, q1, q2, q3, q4, q5, q6⟩ := hot
          refine ⟨xs, q1, q2, q3, q4, fun i d hi hd j c hj => ?_, q6⟩
          obtain ⟨r1, u, r2, r3⟩ := q5 i d hi hd j c hj
          exact ⟨r1, u, r2, .cl (r3.closed (noRs_get (q3.2 i d hd (fun _ _ h => nomatch h)) hj))⟩
        | some p =>
          obtain ⟨m, cs⟩ := p
          simp only [normO]
          cases hl : liveC st.obj cs with
          | false => trivial
          | true =>
            obtain ⟨xs, q1, q2, q3, q4, q5, q6⟩ := hot
            have hcx : ∀ k, cellX ds (some (m, cs.map normCV)) k = if k = m then some (cs.map normCV) else ds[k]? := fun k => rfl
            have hcx0 : ∀ k, cellX ds (some (m, cs)) k = if k = m then some cs else ds[k]? := fun k => rfl
            refine ⟨xs, q1, q2, ⟨fun m' d' he => ?_, fun i d hd hne => ?_⟩, fun i d hi hd => ?_, fun i d hi hd j c hj => ?_, q6⟩
            · simp only [Option.some.injEq, Prod.mk.injEq] at he
              rw [← he.1]
              exact q3.1 m cs rfl
            · exact q3.2 i d hd (fun m' d'' he => by
                simp only [Option.some.injEq, Prod.mk.injEq] at he
                rw [← he.1]
                exact hne m _ rfl)
            · rw [hcx] at hd
              by_cases hk : i = m
              · rw [if_pos hk] at hd
                injection hd with hd
                subst hd
                rw [List.length_map]
                exact q4 i cs hi (by rw [hcx0, if_pos hk])
              · rw [if_neg hk] at hd
                exact q4 i d hi (by rw [hcx0, if_neg hk]; exact hd)
            · rw [hcx] at hd
              by_cases hk : i = m
              · rw [if_pos hk] at hd
                injection hd with hd
                subst hd
                rw [List.getElem?_map] at hj
                cases hcj : cs[j]? with
                | none => rw [hcj] at hj; simp at hj
                | some c0 =>
                  rw [hcj] at hj
                  simp at hj
                  subst hj
                  obtain ⟨r1, u, r2, r3⟩ := q5 i cs hi (by rw [hcx0, if_pos hk]) j c0 hcj
                  exact ⟨by rw [normCV_atom]; exact r1, u, r2, normCV_rep r3 (all_get hl hcj)⟩
              · rw [if_neg hk] at hd
                obtain ⟨r1, u, r2, r3⟩ := q5 i d hi (by rw [hcx0, if_neg hk]; exact hd) j c hj
                exact ⟨r1, u, r2, .cl (r3.closed (noRs_get (q3.2 i d hd (fun m' d'' he => by
                  simp only [Option.some.injEq, Prod.mk.injEq] at he
                  rw [← he.1]; exact hk)) hj))⟩

theorem wpIn_loopK {F : Fence} {m : Nat} {c : Code} {Q : Exit → Act → World → Prop} (I : Nat → Act → World → Prop) (k : Nat) {a : Act} {w : World} (h0 : I k a w)
    (round : ∀ k a w, I k a w → c.wpIn F m P (Exit.then (fun a' w' => ∃ k', k' < k ∧ I k' a' w') Q) a w) : (Code.loop c).wpIn F m P Q a w := by
  intro b k0 cs hro hb hr
  have key : ∀ j a w, I j a w → ∃ e a' w', Q e a' w' ∧ ArrivesIn (Machine.fenced P F) P (lone (b.atR a (.code c :: .inLoop c :: k0)) cs w) b k0 cs e a' w' := by
    intro j
    induction j using Nat.strongRecOn with
    | _ j ih =>
      intro a w hI
      obtain ⟨e, a₁, w₁, hq, harr⟩ := round j a w hI b (.inLoop c :: k0) cs hro hb hr
      cases e with
      | normal =>
        obtain ⟨k', hlt, hI₁⟩ := hq
        obtain ⟨e₂, a₂, w₂, hq₂, harr₂⟩ := ih k' hlt a₁ w₁ hI₁
        exact ⟨e₂, a₂, w₂, hq₂, .of_steps (StepsIn.trans harr (.one (fenced_calm hb hr rfl) stepR_inLoop)) harr₂⟩
      | exit id => exact ⟨_, a₁, w₁, hq, .pass (x := .inLoop c) rfl (fun _ _ => .inl (by simp)) harr⟩
      | goto l => exact ⟨_, a₁, w₁, hq, .pass (x := .inLoop c) rfl (fun _ _ => .inl (by simp)) harr⟩
      | ret => exact ⟨_, a₁, w₁, hq, .pass (x := .inLoop c) rfl (fun _ _ => .inl (by simp)) harr⟩
      | panic ch => exact ⟨_, a₁, w₁, hq, .pass (x := .inLoop c) rfl (fun _ _ => .inl (by simp)) harr⟩
      | outgrown => exact ⟨_, a₁, w₁, hq, .pass (x := .inLoop c) rfl (fun _ _ => .inl (by simp)) harr⟩
  obtain ⟨e, a', w', hq, harr⟩ := key k a w h0
  exact ⟨e, a', w', hq, .of_steps (.one (fenced_calm hb hr rfl) stepR_loop) harr⟩

theorem envSub_get {env : Nat → SV} : ∀ {k : Nat} {l : List SV}, envSub env k l → ∀ {i : Nat} {s : SV}, l[i]? = some s → s = .any ∨ s = env (k + i)
  | _, [], _, _, _, h => by simp at h
  | k, s0 :: r, ⟨h0, h⟩, i, s, hi => by
    cases i with
    | zero => simp at hi; subst hi; exact h0
    | succ i =>
      have := envSub_get h (i := i) (s := s) (by simpa using hi)
      rwa [show k + 1 + i = k + (i + 1) by omega] at this
theorem DefOk.lt {B : Nat} {w : World} : ∀ {ds : List Deferred}, DefOk B w ds → ∀ d ∈ ds, d ≠ { target := .collected w.heap.size, args := #[] }
  | [], _, d, hd => by simp at hd
  | d0 :: ds, ⟨⟨r, h1, h2, _⟩, h⟩, d, hd => by
    rcases List.mem_cons.1 hd with rfl | hd
    · intro e
      rw [h1] at e
      injection e with e _
      injection e with e
      have := (Array.getElem?_eq_some_iff.1 h2).1
      omega
    · exact DefOk.lt h d hd
theorem range_sound (hT : TOk P T) {Q : Exit → Act → World → Prop} {K : Exit → St → Prop} {g : Operand} {ps : Array Tmp} {assign body : Code} (hI : Inv G Z0 w0 S n Z E st a w)
    (hK : ∀ e Z' E' st' a' w', K e st' → Inv G Z0 w0 S n Z' E' st' a' w' → Q e a' w') (h : wpRange (orc P G) n g ps assign body K st) : (Code.rangeFunc g ps assign body).wpIn (FnR none) 0 P Q a w := by
  obtain ⟨s0, env, f, caps, hg, hlen, hsub, h⟩ := h
  have hlen := Nat.eq_of_beq_eq_true hlen
  refine wpIn_rangeFunc ?_
  intro fn _
  obtain ⟨R, hR⟩ : ∃ R : Loop, R = { state := .ready, pending := none, fn := fn, tmps := a.tmps, params := ps, assign := assign, body := body, defers := w.heap.size } := ⟨_, rfl⟩
  have hRt : R.tmps = a.tmps := by rw [hR]
  obtain ⟨τ, off, args, os, r, os', hargs, hos, hefn, hchk, g', b, J, hlp, hkt, hkf⟩ := h (w.heap.size + 1) R (by rw [hR]) (by rw [hR]) (by rw [hR]) (by rw [hRt]; exact hI.sz)
  obtain ⟨w1, hw1⟩ : ∃ w1, w1 = (w.alloc (.deferred (some []))).alloc (.loop R) := ⟨_, rfl⟩
  have hsz1 : w1.heap.size = w.heap.size + 2 := by rw [hw1]; simp
  have hL1 : w1.heap[w.heap.size + 1]? = some (.loop R) := by
    rw [hw1]; have := World.alloc_heap_new (w.alloc (.deferred (some []))) (.loop R); rwa [World.size_alloc] at this
  have hD1 : w1.heap[w.heap.size]? = some dfr0 := by
    rw [hw1]; exact (Below.heap_alloc _ _ _ (by simp)).trans (World.alloc_heap_new w _)
  have hRon : LpS.put R .on = R := by rw [hR]; rfl
  have hk1 : Kept S w w1 := by rw [hw1]; exact ((Kept.refl _ _).alloc hI.sltw _).alloc (fun k hk => by have := hI.sltw k hk; simp; omega) _
  have hkp : Keeps Z w Z w1 := by
    rw [hw1]
    exact (Keeps.alloc hI.zlt _).trans (Keeps.alloc (fun b o h => by have := hI.zlt b o h; simp; omega) _)
  have hold : ∀ k, k < w.heap.size → w1.heap[k]? = w.heap[k]? := fun k hk => by
    rw [hw1]; exact (Below.heap_alloc _ _ _ (by simp; omega)).trans (Below.heap_alloc _ _ _ hk)
  let obj1 := upd st.obj [(s0, ((st.obj s0).1 + 1, .lp (w.heap.size + 1) R .on))]
  have hs1 : obj1 s0 = ((st.obj s0).1 + 1, .lp (w.heap.size + 1) R .on) := upd_one_same _ _ _
  have hn1 : ∀ t, t ≠ s0 → obj1 t = st.obj t := fun t ht => upd_one_ne _ _ ht
  have hI0 : Inv G Z0 w0 S n Z E ⟨put st.env none .any, obj1⟩ (a.put none undef) w1 := by
    refine hI.renew (· = s0) (d := none) (r := .any) (x := undef) rfl hk1 hkp (fun b o h => by have := hI.zlt b o h; omega) (fun _ _ h => .inl h) (fun t ht => ⟨hn1 t ht, rfl⟩) ?_ ?_ ?_ ?_ ?_ (.any _)
    · rintro t rfl; rw [hs1]; exact .inl (Nat.lt_succ_self _)
    · rintro _ t rfl
      rw [hs1]
      exact ⟨by rw [hRon]; exact hL1, fun o hz => by have := hI.zlt _ _ hz; omega⟩
    · intro t ht b hb
      have hlt := (hI.obj t).lt hb
      refine ⟨hold b hlt, fun _ hz => hz, ?_⟩
      rintro s rfl h
      rw [hs1] at h
      simp [AObj.blk] at h
      omega
    · rintro t t' b rfl rfl h; exact absurd rfl h
    · rintro t rfl b hb
      rw [hs1] at hb
      simp [AObj.blk] at hb
      exact hI.fresh (by omega)
  let a1 : Act := { a with defers := { target := .collected w.heap.size, args := #[] } :: a.defers }
  have hI1 : Inv G Z0 w0 S n Z E ⟨st.env, obj1⟩ a1 w1 :=
    { hI0 with defers := ⟨⟨w.heap.size, rfl, hD1, hI.size_le, hI.defers.lt⟩, hI.defers.kept hk1⟩ }
  obtain ⟨Eo, M, hgrp, hGS, hback⟩ := eff_back (D := 0) (d := none) hI1 rfl hos hchk
  -- the function and what it holds
  have hgv := look_rep hI1 g
  have hlk : look ⟨st.env, obj1⟩ g = look st g := by cases g <;> rfl
  rw [hlk] at hgv
  have hev : a1.eval g = a.eval g := by cases g <;> rfl
  rw [hev] at hgv
  have hcap : ∃ cv : List Value, a.eval g = .func (.func f) #[] cv.toArray ∧ caps.length = cv.length ∧ ∀ (i : Nat) (s : SV) (x : Value), caps[i]? = some s → cv[i]? = some x → RepS Z w1 obj1 E s x := by
    generalize a.eval g = y at hgv
    rcases hg with hg | ⟨cs, hg, hcs⟩
    · rw [hg] at hgv
      cases hgv with
      | fnr _ _ vs _ hl hh => exact ⟨vs, rfl, hl, hh⟩
    · rw [hg] at hgv
      subst hcs
      cases hgv with
      | c _ _ hr =>
        cases hr with
        | fn _ _ vs hl hh =>
          refine ⟨vs, rfl, by simpa using hl, fun i s x h1 h2 => ?_⟩
          rw [List.getElem?_map] at h1
          cases hk : cs[i]? with
          | none => rw [hk] at h1; simp at h1
          | some c0 => rw [hk] at h1; simp at h1; subst h1; exact .c _ _ (hh i c0 x hk h2)
  obtain ⟨cv, hcv, hcl, hcr⟩ := hcap
  obtain ⟨hal, hag⟩ := ssTo_spec hargs
  obtain ⟨⟨fnn, hfn, hnm, hbd⟩, hcall⟩ := hefn
  have henvR : RepS Z w1 obj1 E (.fnr (.yl (w.heap.size + 1) R.tmps.toList) env) (.func (.yield (w.heap.size + 1)) #[] #[]) := by
    have := RepS.fnr (Z := Z) (w := w1) (obj := obj1) (E := E) (.yl (w.heap.size + 1) R.tmps.toList) env R.tmps.toList rfl (by rw [hlen, hRt]; simpa using hI.sz.symm) (fun i s x h1 h2 => by
      rcases envSub_get hsub h1 with rfl | rfl
      · exact .any _
      · have h3 := hI1.env i
        rw [Nat.zero_add]
        have h4 : a1.tmps.getD i undef = x := by
          rw [hRt] at h2
          show a.tmps.getD i undef = x
          rw [Array.getD_eq_getD_getElem?, ← Array.getElem?_toList, h2]; rfl
        rw [← h4]; exact h3)
    exact this
  have hcalls := hcall Z w1 Eo (.func (.yield (w.heap.size + 1)) #[] #[] :: cv) hgrp hI1.zlt (by rw [hal]; simp [hcl]) (fun i s x h1 h2 => by
    obtain ⟨s1, h3, h4⟩ := hag i s h1
    cases i with
    | zero =>
      simp at h3 h2
      subst h3
      subst h2
      exact henvR.to M h4
    | succ i =>
      simp at h3 h2
      exact (hcr i s1 x h3 h2).to M h4) (fun w' hk => hI1.gs w' (hI1.below.trans (hk.mono hGS)))
  have hnm' : ¬ (fnn.name = "runtime.NumGoroutine") := by simpa using hnm
  have hbd' : ¬ (fnn.body = none) := fun e => by rw [e] at hbd; cases hbd
  refine ⟨w.heap.size + 1, [{ target := .collected w.heap.size, args := #[] }], w1, { target := .fn (.func f) cv.toArray, args := #[.func (.yield (w.heap.size + 1)) #[] #[]] }, w1, f,
    #[.func (.yield (w.heap.size + 1)) #[] #[]] ++ cv.toArray, w1, ?_, ?_, fun _ _ => trivial, ?_, fun h => (nomatch h), ?_⟩
  · rw [hw1, hR]; exact run_enterLoop_outer _ _ _ _ _
  · simp only [resolve, hcv]
    simp [go_sem]
  · simp only [invoke, callFunc]
    simp [Go.program, Sem.run, hfn, hnm', hbd', go_sem]
  refine callsIn_fnR.2 ?_
  have hargsE : (#[.func (.yield (w.heap.size + 1)) #[] #[]] ++ cv.toArray : Array Value) = (.func (.yield (w.heap.size + 1)) #[] #[] :: cv).toArray := by
    apply Array.ext'; simp
  rw [hargsE]
  refine hcalls.mono ?_
  rintro e w3 ⟨x, Z', Eo', rfl, hp⟩
  obtain ⟨E', hI3⟩ := hback x Z' w3 Eo' hp
  -- the record is shut
  have hlp' : (upd obj1 (uBk obj1 0 off τ 0 os')) s0 = (g', .lp (w.heap.size + 1) R (lpq b J)) := hlp
  have ho3 := hI3.obj s0
  have how3 := hI3.own s0
  have hap3 := hI3.apart
  simp only at ho3 how3 hap3
  rw [hlp'] at ho3 how3
  obtain ⟨hL3, hz3⟩ := ho3
  have hl3 : w.heap.size + 1 < w3.heap.size := (Array.getElem?_eq_some_iff.1 hL3).1
  obtain ⟨R3, hR3⟩ : ∃ R3, R3 = LpS.put R (lpq b J) := ⟨_, rfl⟩
  rw [← hR3] at hL3
  have hst3 : R3.state ≠ .busy := by rw [hR3]; cases b <;> simp [lpq, LpS.put]
  have hend := run_endLoop (P := P) hL3 hst3
  have hI4 : Inv G Z0 w0 S n Z' E' ⟨put st.env none .any, upd (upd obj1 (uBk obj1 0 off τ 0 os')) [(s0, (g', .spent))]⟩ (a1.put none undef) (w3.putObj (w.heap.size + 1) (.loop { R3 with state := .exhausted })) := by
    have hs4 : upd (upd obj1 (uBk obj1 0 off τ 0 os')) [(s0, (g', .spent))] s0 = (g', .spent) := upd_one_same _ _ _
    have hn4 : ∀ t, t ≠ s0 → upd (upd obj1 (uBk obj1 0 off τ 0 os')) [(s0, (g', .spent))] t = upd obj1 (uBk obj1 0 off τ 0 os') t := fun t ht => upd_one_ne _ _ ht
    have hoth : ∀ k, k ≠ w.heap.size + 1 → (w3.putObj (w.heap.size + 1) (.loop { R3 with state := .exhausted })).heap[k]? = w3.heap[k]? := fun k hk => World.putObj_heap_other hk
    refine hI3.renew (· = s0) (d := none) (r := .any) (x := undef) rfl ?_ ?_ (fun b o h => by have := hI3.zlt b o h; simpa using this) (fun _ _ h => .inl h) (fun t ht => ⟨hn4 t ht, rfl⟩) ?_ ?_ ?_ ?_ ?_ (.any _)
    · refine ⟨rfl, rfl, rfl, by simp, fun k hk => hoth k (fun e => how3 (w.heap.size + 1) rfl (e ▸ hk)), fun k hk => (hoth k (fun e => ?_)).trans hk⟩
      rw [e, hL3] at hk; exact nomatch hk
    · exact fun b o hz => ⟨hz, keep_heap (hoth b (fun e => hz3 o (e ▸ hz)))⟩
    · rintro t rfl
      rw [hs4]
      exact .inr ⟨by show g' = (upd obj1 (uBk obj1 0 off τ 0 os') t).1; rw [hlp'], .inl (.inl rfl)⟩
    · rintro _ t rfl; rw [hs4]; trivial
    · intro t ht b' hb
      refine ⟨hoth b' (fun e => ?_), fun _ hz => hz, ?_⟩
      · subst e
        exact hap3 t s0 _ ht hb (by rw [hlp'] <;> rfl)
      · rintro s rfl h
        rw [hs4] at h
        simp [AObj.blk] at h
    · rintro t t' b rfl rfl h; exact absurd rfl h
    · rintro t rfl b hb
      rw [hs4] at hb
      simp [AObj.blk] at hb
  generalize w3.putObj (w.heap.size + 1) (.loop { R3 with state := .exhausted }) = w4 at hend hI4
  refine ⟨R3.pending, w4, hend, ?_⟩
  cases b with
  | true =>
    have hpn : R3.pending = none := by rw [hR3]; rfl
    rw [hpn]
    exact hK .normal _ _ _ _ _ (hkt rfl) hI4
  | false =>
    have hpn : R3.pending = some J := by rw [hR3]; rfl
    rw [hpn]
    have hj := hkf rfl
    unfold jmpK at hj
    split at hj
    · exact wpIn_ret (hK _ _ _ _ _ _ hj hI4)
    · exact wpIn_exit (hK _ _ _ _ _ _ hj hI4)
    · exact hj.elim

theorem nr1 {ρ : Option Nat} {a b : Code} (h : ρ = none ∨ (noRange a && noRange b) = true) : ρ = none ∨ noRange a = true := h.imp id fun h => by simp only [Bool.and_eq_true] at h; exact h.1
theorem nr2 {ρ : Option Nat} {a b : Code} (h : ρ = none ∨ (noRange a && noRange b) = true) : ρ = none ∨ noRange b = true := h.imp id fun h => by simp only [Bool.and_eq_true] at h; exact h.2
theorem wpA_sound (hT : TOk P T) (hm : P.follows .mixedOrders = true) {ρ : Option Nat} (code : Code) : (ρ = none ∨ noRange code = true) → ∀ {Q : Exit → Act → World → Prop} {K : Exit → St → Prop} (_ : ∀ e Z' E' st' a' w', K e st' → Inv G Z0 w0 S n Z' E' st' a' w' → Q e a' w')
    (Z : Zone) (E : Nat → Value) (st : St) (a : Act) (w : World), Inv G Z0 w0 S n Z E st a w → wpA (orc P G) T n code K st → code.wpIn (FnR ρ) 0 P Q a w := by
  induction code with
  | skip => intro hρ Q K hK Z E st a w hI h; exact wpIn_skip (hK _ _ _ _ _ _ h hI)
  | region id ops draw =>
    intro hρ Q K hK Z E st a w hI h
    simp only [wpA] at h
    cases draw with
    | true => exact wpDraw_sound hT hm (fun Z' E' st' a' w' hk hI' => hK _ _ _ _ _ _ hk hI') hI h
    | false =>
      simp only [cond_false] at h
      have := wpOps_sound (ρ := ρ) (Q := Q) hT ops.toList (fun Z' E' st' a' w' hk hI' => hK _ _ _ _ _ _ hk hI') ops.toList Z E st a w hI h
      refine wpIn_region_list ?_
      simpa using this
  | seq x y ihx ihy =>
    intro hρ Q K hK Z E st a w hI h
    simp only [wpA] at h
    cases hj : isJoin x with
    | true =>
      rw [hj] at h
      simp only [cond_true] at h
      refine wpIn_seq (ihx (nr1 hρ) (fun e Z' E' st' a' w' hk hI' => ?_) Z E st a w hI h)
      cases e with
      | normal =>
        rcases hk with hk | ⟨st0, hw, hk⟩
        · exact ihy (nr2 hρ) hK _ _ _ _ _ hI' hk
        · exact ihy (nr2 hρ) hK _ _ _ _ _ (hI'.weak hw) hk
      | exit id => exact hK _ _ _ _ _ _ hk hI'
      | goto l => exact hK _ _ _ _ _ _ hk hI'
      | ret => exact hK _ _ _ _ _ _ hk hI'
      | panic ch => exact hK _ _ _ _ _ _ hk hI'
      | outgrown => exact hK _ _ _ _ _ _ hk hI'
    | false =>
      rw [hj] at h
      simp only [cond_false] at h
      refine wpIn_seq (ihx (nr1 hρ) (fun e Z' E' st' a' w' hk hI' => ?_) Z E st a w hI h)
      cases e with
      | normal => exact ihy (nr2 hρ) hK _ _ _ _ _ hI' hk
      | exit id => exact hK _ _ _ _ _ _ hk hI'
      | goto l => exact hK _ _ _ _ _ _ hk hI'
      | ret => exact hK _ _ _ _ _ _ hk hI'
      | panic ch => exact hK _ _ _ _ _ _ hk hI'
      | outgrown => exact hK _ _ _ _ _ _ hk hI'
  | cond c x y ihx ihy =>
    intro hρ Q K hK Z E st a w hI h
    simp only [wpA] at h
    have hc := look_rep hI c
    split at h
    · rename_i he
      rw [he] at hc
      have hv : a.eval c = .bool true := by generalize a.eval c = y at hc; cases hc; rfl
      exact wpIn_cond_true hv (ihx (nr1 hρ) hK _ _ _ _ _ hI h)
    · rename_i he
      rw [he] at hc
      have hv : a.eval c = .bool false := by generalize a.eval c = y at hc; cases hc; rfl
      exact wpIn_cond_false hv (ihy (nr2 hρ) hK _ _ _ _ _ hI h)
    · rename_i q he
      rw [he] at hc
      have hv : a.eval c = .bool q := rep_cv hc
      cases q with
      | true => exact wpIn_cond_true hv (ihx (nr1 hρ) hK _ _ _ _ _ hI (h.1 rfl))
      | false => exact wpIn_cond_false hv (ihy (nr2 hρ) hK _ _ _ _ _ hI (h.2 rfl))
    · exact h.elim
  | block id body ih =>
    intro hρ Q K hK Z E st a w hI h
    simp only [wpA] at h
    refine wpIn_block (ih hρ (fun e Z' E' st' a' w' hk hI' => ?_) Z E st a w hI h)
    cases e with
    | exit j =>
      simp only [Exit.inBlock]
      cases hb : Nat.beq j id with
      | true =>
        simp only [hb, cond_true] at hk
        rw [if_pos (Nat.eq_of_beq_eq_true hb)]
        exact hK _ _ _ _ _ _ hk hI'
      | false =>
        simp only [hb, cond_false] at hk
        rw [if_neg (fun e => by subst e; simp at hb)]
        exact hK _ _ _ _ _ _ hk hI'
    | normal => exact hK _ _ _ _ _ _ hk hI'
    | goto l => exact hK _ _ _ _ _ _ hk hI'
    | ret => exact hK _ _ _ _ _ _ hk hI'
    | panic ch => exact hK _ _ _ _ _ _ hk hI'
    | outgrown => exact hK _ _ _ _ _ _ hk hI'
  | loop body ih =>
    intro hρ Q K hK Z E st a w hI h
    simp only [wpA] at h
    obtain ⟨I, ⟨k, st0, hw, hi⟩, hstep⟩ := h
    refine wpIn_loopK (fun k a w => ∃ Z E st, I k st ∧ Inv G Z0 w0 S n Z E st a w) k ⟨Z, E, st0, hi, hI.weak hw⟩ fun k a w ⟨Z, E, st, hi, hI⟩ => ?_
    refine ih hρ (fun e Z' E' st' a' w' hk' hI' => ?_) Z E st a w hI (hstep k st hi)
    cases e with
    | normal =>
      obtain ⟨k', st3, hlt, hw3, hi3⟩ := hk'
      exact ⟨k', hlt, Z', E', st3, hi3, hI'.weak hw3⟩
    | exit j => exact hK _ _ _ _ _ _ hk' hI'
    | goto l => exact hK _ _ _ _ _ _ hk' hI'
    | ret => exact hK _ _ _ _ _ _ hk' hI'
    | panic ch => exact hK _ _ _ _ _ _ hk' hI'
    | outgrown => exact hK _ _ _ _ _ _ hk' hI'
  | exit id => intro _ Q K hK Z E st a w hI h; exact wpIn_exit (hK _ _ _ _ _ _ h hI)
  | ret => intro _ Q K hK Z E st a w hI h; exact wpIn_ret (hK _ _ _ _ _ _ h hI)
  | rangeFunc f ps x y =>
    intro hρ Q K hK Z E st a w hI h
    obtain rfl : ρ = none := hρ.resolve_right (fun h => nomatch h)
    exact range_sound hT hI hK h
  | scope body => intro _ Q K hK Z E st a w hI h; exact h.elim
  | label l => intro _ Q K hK Z E st a w hI h; exact h.elim
  | goto l => intro _ Q K hK Z E st a w hI h; exact h.elim
  | refuse why => intro _ Q K hK Z E st a w hI h; exact h.elim

theorem resC_run (hT : TOk P T) (hI : Inv G Z0 w0 S n Z E st a w) {rv : ResultVar} {c : CV} (h : resC T st rv = some c) :
    ∃ x, (match rv with | .tmp t => pure (a.tmps.getD t undef) | .cell y t => do loadVar t (← asAddr (a.tmps.getD y undef)) : Sem Value).run P w = .ok x w ∧ Rep Z w c x := by
  cases rv with
  | tmp t => exact ⟨_, by simp, asC_rep (hI.env t) h⟩
  | cell y t =>
    simp only [resC] at h
    split at h
    · rename_i i s g off hti he
      split at h
      · rename_i g' cs ho
        cases hb : Nat.beq g g' with
        | false => rw [hb] at h; simp at h
        | true =>
          rw [hb] at h
          simp only [cond_true] at h
          have := Nat.eq_of_beq_eq_true hb
          subst this
          have henv := hI.env y
          rw [he] at henv
          obtain ⟨b, _, hx, f, hc⟩ := var_cells hI (.inl ho) henv
          obtain ⟨v, hv, hr⟩ := run_part (o := 0) (hT _ _ hti) (fun j c hj => by rw [Nat.zero_add]; exact hc j c hj) h
          refine ⟨v, ?_, hr⟩
          simp only [Instr.loadAt, Instr.sureAddr, Sem.run_bind, Sem.run_pure, Result.andThen_ok, Nat.zero_add] at hv
          simp only [hx, asAddr, Sem.run_bind, Sem.run_pure, Result.andThen_ok, hv]
      · simp at h
    · simp at h

theorem resAll_run (hT : TOk P T) (hI : Inv G Z0 w0 S n Z E st a w) : ∀ (rs : List ResultVar) (cs : List CV), resAll T st rs = some cs →
    ∃ vs, (rs.mapM fun rv => (match rv with | .tmp t => pure (a.tmps.getD t undef) | .cell y t => do loadVar t (← asAddr (a.tmps.getD y undef)) : Sem Value)).run P w = .ok vs w ∧ RepL Z w cs vs
  | [], cs, h => by simp [resAll] at h; subst h; exact ⟨[], by simp, RepL.nil _ _⟩
  | rv :: rs, cs, h => by
    simp only [resAll] at h
    split at h
    · rename_i c cs' h1 h2
      simp at h
      subst h
      obtain ⟨x, hx, hr⟩ := resC_run hT hI h1
      obtain ⟨vs, hvs, hrs⟩ := resAll_run hT hI rs cs' h2
      refine ⟨x :: vs, ?_, RepL.cons hr hrs⟩
      simp only [List.mapM_cons, Sem.run_bind, hx, Result.andThen_ok, hvs, Sem.run_pure]
    · simp at h

theorem results_run (hT : TOk P T) (hI : Inv G Z0 w0 S n Z E st a w) {fn : Func} {r : CV} (h : resVal T st fn.results.toList = some r) : ∃ x, (results fn a.tmps).run P w = .ok x w ∧ Rep Z w r x := by
  unfold results
  rw [Array.mapM_eq_mapM_toList]
  unfold resVal at h
  split at h
  · rename_i rv hrs
    obtain ⟨x, hx, hr⟩ := resC_run hT hI h
    refine ⟨x, ?_, hr⟩
    simp only [hrs, List.mapM_cons, List.mapM_nil, Sem.run_bind, Sem.run_map, Sem.run_pure, Result.andThen_ok]
    exact congrArg (fun r : Result Value => ((r.andThen fun a w' => Result.ok [a] w').andThen fun a w' => Result.ok a.toArray w').andThen fun a w' => Result.ok (if h : a.size = 1 then a[0] else Value.tuple a) w') hx
  · rename_i hne
    cases hra : resAll T st fn.results.toList with
    | none => rw [hra] at h; simp at h
    | some cs =>
      rw [hra] at h
      simp at h
      subst h
      obtain ⟨vs, hvs, hrs⟩ := resAll_run hT hI _ _ hra
      have hlen : ∀ (rs : List ResultVar) (cs : List CV), resAll T st rs = some cs → cs.length = rs.length := by
        intro rs
        induction rs with
        | nil => intro cs h; simp [resAll] at h; subst h; rfl
        | cons rv rs ih =>
          intro cs h
          simp only [resAll] at h
          split at h
          · rename_i c cs' _ h2; simp at h; subst h; simp [ih cs' h2]
          · simp at h
      have h1 : vs.length ≠ 1 := fun e => by
        have := hlen _ _ hra
        rw [hrs.1, e] at this
        match hl : fn.results.toList, this with
        | [x], _ => exact hne x hl
      refine ⟨.tuple vs.toArray, ?_, .tup cs vs hrs.1 hrs.2⟩
      simp only [Sem.run_bind, Sem.run_map, Sem.run_pure]
      refine (congrArg (fun r : Result (List Value) => (r.andThen fun a w' => Result.ok a.toArray w').andThen fun a w' => Result.ok (if h : a.size = 1 then a[0] else Value.tuple a) w') hvs).trans ?_
      simp only [Result.andThen_ok]
      rw [dif_neg (by simpa using h1)]

theorem init_rep : ∀ (args : List CV) (vs : List Value) (_ : RepL Z w args vs) (t : Nat), RepS Z w (fun _ => (0, .none)) E (initEnv args t) (vs.getD t undef)
  | [], vs, _, t => .any _
  | c :: args, [], h, t => by have := h.1; simp at this
  | c :: args, x :: vs, h, 0 => .c _ _ h.head
  | c :: args, x :: vs, h, t + 1 => by simpa [initEnv] using init_rep args vs h.tail t
end
end Go.Abs

/-
  Soundness: results, slices of the call's own among them; then whole functions.
-/
namespace Go.Abs
open Go Go.RowKit

section
variable {P : Program} {G : World → Prop} {T : Tab} {Z0 : Base} {w0 : World} {S : Nat → Prop} {n : Nat} {Z Z' : Zone} {E : Nat → Value} {st : St} {a : Act} {w w' : World}

def readRes (a : Act) (rv : ResultVar) : Sem Value := match rv with | .tmp t => pure (a.tmps.getD t undef) | .cell y t => do loadVar t (← asAddr (a.tmps.getD y undef))
/-- All that the call made is closed. -/
def Zall (Z : Zone) (obj : Objs) (E : Nat → Value) : Zone := fun b o => Z b o ∨ ∃ s, (obj s).2.blk (E s) b
theorem Zall_keep : Keeps Z w (Zall Z st.obj E) w := fun _ _ hz => ⟨.inl hz, rfl, fun _ _ h => h⟩
theorem Zf_all {ts : List Nat} : Keeps (Zf Z st.obj E ts) w (Zall Z st.obj E) w := fun _ _ hz => ⟨hz.imp id fun ⟨s, _, h⟩ => ⟨s, h⟩, rfl, fun _ _ h => h⟩
theorem arr_closed (hI : Inv G Z0 w0 S n Z E st a w) {t g el sz : Nat} {ds : List (List CV)} (ho : st.obj t = (g, .arr el sz ds none)) : Rep (Zall Z st.obj E) w (.sl sz ds) (E t) :=
  (arr_rep hI ho (List.mem_singleton.2 rfl) rfl).keep Zf_all
theorem frz_spec (hI : Inv G Z0 w0 S n Z E st a w) {cs cs' : List CV} (h : frzCells st.obj cs = some cs') : cs'.length = cs.length ∧ ∀ (j : Nat) (c c' : CV), cs[j]? = some c → cs'[j]? = some c' →
    (c.atom = true → c'.atom = true) ∧ ∀ x, RepX Z w st.obj E c x → Rep (Zall Z st.obj E) w c' x := by
  unfold frzCells at h
  cases hf : frzCs st.obj cs with
  | none => rw [hf] at h; simp at h
  | some p =>
    obtain ⟨ds, ts⟩ := p
    rw [hf] at h
    simp at h
    subst h
    obtain ⟨h1, h2⟩ := frzCs_rep hI (us := ts) hf (fun _ h => h)
    refine ⟨h1, fun j c c' h3 h4 => ?_⟩
    obtain ⟨c0, h5, h6, h7⟩ := h2 j c' h4
    rw [h3] at h5
    cases h5
    exact ⟨h6, fun x hx => (h7 x hx).keep Zf_all⟩
theorem arrF_closed (hI : Inv G Z0 w0 S n Z E st a w) {t g el sz m : Nat} {ds : List (List CV)} {cs cs' : List CV} (ho : st.obj t = (g, .arr el sz ds (some (m, cs)))) (hf : frzCells st.obj cs = some cs') :
    Rep (Zall Z st.obj E) w (.sl sz (ds.set m cs')) (E t) := by
  have hot := hI.obj t
  rw [ho] at hot
  obtain ⟨xs, hsz, hown, hfoc, hdl, hcl, hz⟩ := hot
  have hm := hfoc.1 m cs rfl
  obtain ⟨hl, hsp⟩ := frz_spec hI hf
  have hcx : ∀ k, cellX ds (some (m, cs)) k = if k = m then some cs else ds[k]? := fun k => rfl
  have hcsl : cs.length = sz := hdl m cs hm (by rw [hcx, if_pos rfl])
  refine rep_own (m0 := ds.length) hown (by simp) (fun i d hd => ?_) (fun i j d c h1 h2 => ?_) (fun b o hb _ => .inr ⟨t, by rw [ho, arr_blk]; exact hb⟩)
  · by_cases hi : i = m
    · subst hi; rw [List.getElem?_set_self hm] at hd; injection hd with hd; subst hd; omega
    · rw [List.getElem?_set_ne (Ne.symm hi)] at hd
      exact hdl i d (List.getElem?_eq_some_iff.1 hd).1 (by rw [hcx, if_neg hi]; exact hd)
  · by_cases hi : i = m
    · subst hi
      rw [List.getElem?_set_self hm] at h1
      injection h1 with h1
      subst h1
      have hjl : j < cs.length := by rw [← hl]; exact (List.getElem?_eq_some_iff.1 h2).1
      obtain ⟨hat, u, hu, hr⟩ := hcl i cs hm (by rw [hcx, if_pos rfl]) j _ (List.getElem?_eq_getElem hjl)
      obtain ⟨q1, q2⟩ := hsp j _ c (List.getElem?_eq_getElem hjl) h2
      exact ⟨q1 hat, u, hu, q2 u hr⟩
    · rw [List.getElem?_set_ne (Ne.symm hi)] at h1
      obtain ⟨hat, u, hu, hr⟩ := hcl i d (List.getElem?_eq_some_iff.1 h1).1 (by rw [hcx, if_neg hi]; exact h1) j c h2
      have hcr := noRs_get (hfoc.2 i d h1 (fun m' d'' he => by
        simp only [Option.some.injEq, Prod.mk.injEq] at he
        rw [← he.1]; exact hi)) h2
      exact ⟨hat, u, hu, (hr.closed hcr).keep Zall_keep⟩

theorem resX_run (hT : TOk P T) (hI : Inv G Z0 w0 S n Z E st a w) {rv : ResultVar} {c : CV} (h : resX T st rv c) :
    ∃ x, (readRes a rv).run P w = .ok x w ∧ Rep (Zall Z st.obj E) w c x := by
  have old : resC T st rv = some c → ∃ x, (readRes a rv).run P w = .ok x w ∧ Rep (Zall Z st.obj E) w c x := fun h => by
    obtain ⟨x, h1, h2⟩ := resC_run hT hI h
    exact ⟨x, by cases rv <;> exact h1, h2.keep Zall_keep⟩
  cases rv with
  | tmp t =>
    have henv := hI.env t
    unfold resX at h
    simp only at h
    split at h
    · rename_i s g he
      rw [he] at henv
      split at h
      · rename_i g' el sz ds foc ho
        obtain ⟨hb, ds', rfl, h⟩ := h
        have := Nat.eq_of_beq_eq_true hb
        subst this
        refine ⟨a.tmps.getD t undef, rfl, ?_⟩
        have hE : a.tmps.getD t undef = E s := by
          generalize a.tmps.getD t undef = y at henv
          cases henv with | rs _ _ _ _ _ hE => exact (hE _ _ _ _ ho).symm
        rw [hE]
        cases foc with
        | none => simp only at h; subst h; exact arr_closed hI ho
        | some p =>
          obtain ⟨m, cs⟩ := p
          obtain ⟨cs', hf, rfl⟩ := h
          exact arrF_closed hI ho hf
      · exact h.elim
    · rename_i cs he
      rw [he] at henv
      obtain ⟨cs', hf, rfl⟩ := h
      refine ⟨a.tmps.getD t undef, rfl, ?_⟩
      generalize a.tmps.getD t undef = y at henv
      cases henv with
      | agx _ vs hl hr ha =>
        obtain ⟨q1, q2⟩ := frz_spec hI hf
        refine .agg cs' vs (by omega) (fun i c v h1 h2 => ?_) (fun i c h1 => ?_)
        · have hil : i < cs.length := by rw [← q1]; exact (List.getElem?_eq_some_iff.1 h1).1
          exact (q2 i _ c (List.getElem?_eq_getElem hil) h1).2 v (hr i _ v (List.getElem?_eq_getElem hil) h2)
        · have hil : i < cs.length := by rw [← q1]; exact (List.getElem?_eq_some_iff.1 h1).1
          exact (q2 i _ c (List.getElem?_eq_getElem hil) h1).1 (ha i _ (List.getElem?_eq_getElem hil))
    · rename_i s g he
      rw [he] at henv
      split at h
      · rename_i g' es ho
        obtain ⟨hb, rfl⟩ := h
        have := Nat.eq_of_beq_eq_true hb
        subst this
        have hf : frzCells st.obj [.mr s g] = some [.mp es] := by simp [frzCells, frzCs, frzC1, ho]
        obtain ⟨_, q2⟩ := frz_spec hI hf
        refine ⟨a.tmps.getD t undef, rfl, ?_⟩
        generalize a.tmps.getD t undef = y at henv
        cases henv with | mr _ _ _ hs hg hE => exact (q2 0 _ _ rfl rfl).2 _ (.one (.mr _ _ _ hs hg hE))
      · exact h.elim
    · rename_i s g he
      rw [he] at henv
      split at h
      · rename_i g' K ho
        obtain ⟨hb, hcl⟩ := h
        have := Nat.eq_of_beq_eq_true hb
        subst this
        have hf : frzCells st.obj [.xr s g] = some [c] := by simp [frzCells, frzCs, frzC1, ho, hcl]
        obtain ⟨_, q2⟩ := frz_spec hI hf
        refine ⟨a.tmps.getD t undef, rfl, ?_⟩
        generalize a.tmps.getD t undef = y at henv
        cases henv with | xr _ _ _ hs hg hE => exact (q2 0 _ _ rfl rfl).2 _ (.one (.xr _ _ _ hs hg hE))
      · exact h.elim
    · exact old h
  | cell y t =>
    unfold resX at h
    simp only at h
    split at h
    · rename_i i s g off hti he
      have henv := hI.env y
      rw [he] at henv
      split at h
      · rename_i g' cs ho
        obtain ⟨hb, cs', hf, hp⟩ := h
        have := Nat.eq_of_beq_eq_true hb
        subst this
        obtain ⟨b, _, hx, f, hc⟩ := varx_cells hI ho henv
        obtain ⟨q1, q2⟩ := frz_spec hI hf
        obtain ⟨v, hv, hr⟩ := run_part (Z := Zall Z st.obj E) (o := 0) (cs := cs') (hT _ _ hti) (fun j c hj => by
          have hil : j < cs.length := by rw [← q1]; exact (List.getElem?_eq_some_iff.1 hj).1
          obtain ⟨r1, r2, r3⟩ := hc j _ (List.getElem?_eq_getElem hil)
          obtain ⟨s1, s2⟩ := q2 j _ c (List.getElem?_eq_getElem hil) hj
          rw [Nat.zero_add]; exact ⟨r1, s1 r2, s2 _ r3⟩) hp
        refine ⟨v, ?_, hr⟩
        simp only [Instr.loadAt, Instr.sureAddr, Sem.run_bind, Sem.run_pure, Result.andThen_ok, Nat.zero_add] at hv
        simp only [readRes, hx, asAddr, Sem.run_bind, Sem.run_pure, Result.andThen_ok, hv]
      · exact old h
    · exact h.elim

theorem resXs_run (hT : TOk P T) (hI : Inv G Z0 w0 S n Z E st a w) : ∀ (rs : List ResultVar) (cs : List CV), resXs T st rs cs →
    ∃ vs, (rs.mapM fun rv => readRes a rv).run P w = .ok vs w ∧ RepL (Zall Z st.obj E) w cs vs ∧ cs.length = rs.length
  | [], cs, h => by simp [resXs] at h; subst h; exact ⟨[], by simp, RepL.nil _ _, rfl⟩
  | rv :: rs, [], h => by simp [resXs] at h
  | rv :: rs, c :: cs, h => by
    obtain ⟨x, hx, hr⟩ := resX_run hT hI h.1
    obtain ⟨vs, hvs, hrs, hl⟩ := resXs_run hT hI rs cs h.2
    refine ⟨x :: vs, ?_, RepL.cons hr hrs, by simp [hl]⟩
    simp only [List.mapM_cons, Sem.run_bind, hx, Result.andThen_ok, hvs, Sem.run_pure]

theorem results_eq (fn : Func) (a : Act) : results fn a.tmps = (do
    let vs ← (fn.results.toList.mapM (readRes a))
    pure (if h : vs.toArray.size = 1 then vs.toArray[0] else Value.tuple vs.toArray)) := by
  unfold results
  rw [Array.mapM_eq_mapM_toList]
  simp only [map_eq_pure_bind, bind_assoc, pure_bind]
  first | rfl | (congr 1; congr 1; funext rv; cases rv <;> rfl)
theorem results_one {fn : Func} {rv : ResultVar} {x : Value} (hrs : fn.results.toList = [rv]) (hx : (readRes a rv).run P w = .ok x w) : (results fn a.tmps).run P w = .ok x w := by
  rw [results_eq, hrs]
  simp [hx]
theorem results_many {fn : Func} {vs : List Value} (hvs : (fn.results.toList.mapM fun rv => readRes a rv).run P w = .ok vs w) (h1 : vs.length ≠ 1) : (results fn a.tmps).run P w = .ok (.tuple vs.toArray) w := by
  rw [results_eq]
  simp only [Sem.run_bind, hvs, Result.andThen_ok, Sem.run_pure]
  rw [dif_neg (by simpa using h1)]

theorem osOk_spec {τ : List (Nat × Nat)} : ∀ {l : List (Nat × Nat)} {os : List (Nat × Nat × List (List CV) × Option (Nat × List CV))}, osOk st τ l os → os.length = l.length ∧ ∀ (j t g : Nat), l[j]? = some (t, g) → ∃ el sz ds foc f, os[j]? = some (el, sz, ds, foc) ∧ backF τ foc = some f ∧ st.obj t = (g, .arr el sz ds f)
  | [], os, h => by simp [osOk] at h; subst h; exact ⟨rfl, fun j t g h => by simp at h⟩
  | (t0, g0) :: l, [], h => by simp [osOk] at h
  | (t0, g0) :: l, (el, sz, ds, foc) :: os, h => by
    simp only [osOk] at h
    obtain ⟨h1, h2⟩ := h
    obtain ⟨q1, q2⟩ := osOk_spec h2
    refine ⟨by simp [q1], fun j t g hj => ?_⟩
    cases j with
    | zero =>
      simp at hj
      obtain ⟨rfl, rfl⟩ := hj
      split at h1
      · rename_i f hf
        exact ⟨el, sz, ds, foc, f, rfl, hf, h1⟩
      · exact h1.elim
    | succ j => exact q2 j t g (by simpa using hj)
theorem backL_spec {τ : List (Nat × Nat)} : ∀ {cs cs' : List CV}, backL τ cs = some cs' → cs'.length = cs.length ∧ ∀ (j : Nat) (c c' : CV), cs[j]? = some c → cs'[j]? = some c' → backC τ c = some c'
  | [], cs', h => by simp [backL] at h; subst h; exact ⟨rfl, fun j c c' h => by simp at h⟩
  | c0 :: r, cs', h => by
    simp only [backL] at h
    split at h
    · rename_i c1 cs1 h1 h2
      simp at h
      subst h
      obtain ⟨q1, q2⟩ := backL_spec h2
      refine ⟨by simp [q1], fun j c c' hj hj' => ?_⟩
      cases j with
      | zero => simp at hj hj'; subst hj; subst hj'; exact h1
      | succ j => exact q2 j c c' (by simpa using hj) (by simpa using hj')
    · simp at h
theorem backC_rs {τ : List (Nat × Nat)} {c c' : CV} (h : backC τ c = some c') : c.isRs = false ∧ (∀ j, c = .ow j → j < τ.length) ∧ (c.atom = c'.atom) := by
  cases c with
  | ow j =>
    simp only [backC] at h
    split at h
    · rename_i t g ht
      simp at h
      subst h
      exact ⟨rfl, fun k e => by cases e; exact (List.getElem?_eq_some_iff.1 ht).1, rfl⟩
    · simp at h
  | rs t g => simp [backC] at h
  | pr t g off => simp [backC] at h
  | mr t g => simp [backC] at h
  | xr t g => simp [backC] at h
  | fr f caps => simp [backC] at h
  | bp T f => simp [backC] at h
  | _ => simp only [backC, Option.some.injEq] at h; subst h; exact ⟨rfl, fun k e => (nomatch e), rfl⟩
theorem nodup_spec : ∀ {l : List Nat}, nodupB l = true → ∀ (i j x : Nat), l[i]? = some x → l[j]? = some x → i = j
  | [], _, i, j, x, h, _ => by simp at h
  | y :: r, h, i, j, x, hi, hj => by
    simp only [nodupB] at h
    cases hb : r.any (Nat.beq y) with
    | true => rw [hb] at h; cases h
    | false =>
      rw [hb] at h
      have hno : ∀ k, r[k]? ≠ some y := fun k hk => by
        have : r.any (Nat.beq y) = true := List.any_eq_true.2 ⟨y, List.mem_of_getElem? hk, by simp⟩
        rw [this] at hb; cases hb
      cases i with
      | zero =>
        cases j with
        | zero => rfl
        | succ j => simp at hi hj; subst hi; exact absurd hj (hno j)
      | succ i =>
        cases j with
        | zero => simp at hi hj; subst hj; exact absurd hi (hno i)
        | succ j => rw [nodup_spec h i j x (by simpa using hi) (by simpa using hj)]

theorem resW_run (hT : TOk P T) (hI : Inv G Z0 w0 S n Z E st a w) {fn : Func} {r : CV} {os : List (Nat × Nat × List (List CV) × Option (Nat × List CV))} (h : resW T st fn.results.toList r os) :
    ∃ x, (results fn a.tmps).run P w = .ok x w ∧ RepW Z (fun b => ¬ S b) w r os x := by
  obtain ⟨τ, hnd, hos, hr⟩ := h
  obtain ⟨hol, hosp⟩ := osOk_spec hos
  let Eo : Nat → Value := fun j => match τ[j]? with | some (t, _) => E t | .none => undef
  have hEo : ∀ j t g, τ[j]? = some (t, g) → Eo j = E t := fun j t g h => by simp only [Eo, h]
  have hget : ∀ j, j < os.length → ∃ t g el sz ds foc f, τ[j]? = some (t, g) ∧ os[j]? = some (el, sz, ds, foc) ∧ backF τ foc = some f ∧ st.obj t = (g, .arr el sz ds f) := fun j hj => by
    have hj' : j < τ.length := by omega
    obtain ⟨el, sz, ds, foc, f, h1, h2, h3⟩ := hosp j (τ[j]'hj').1 (τ[j]'hj').2 (List.getElem?_eq_getElem hj')
    exact ⟨_, _, el, sz, ds, foc, f, List.getElem?_eq_getElem hj', h1, h2, h3⟩
  have hobo : ∀ j el sz ds foc, os[j]? = some (el, sz, ds, foc) → obo os j = (0, .arr el sz ds (match foc with | .none => .none | some (m, cs) => some (m, cs.map own0))) := fun j el sz ds foc h => by
    cases foc with
    | none => simp [obo, h]
    | some p => obtain ⟨m, cs⟩ := p; simp [obo, h]
  have hcell : ∀ (c c' : CV) (u : Value), backC τ c = some c' → RepX Z w st.obj E c' u → RepX Z w (obo os) Eo (own0 c) u := by
    intro c c' u hb hx
    cases c with
    | ow j =>
      simp only [backC] at hb
      split at hb
      · rename_i t g ht
        simp at hb
        subst hb
        have hj : j < os.length := by rw [hol]; exact (List.getElem?_eq_some_iff.1 ht).1
        obtain ⟨t', g', el, sz, ds, foc, f, h1, h2, h3, h4⟩ := hget j hj
        rw [ht] at h1
        simp at h1
        obtain ⟨rfl, rfl⟩ := h1
        cases hx with
        | one hx =>
          cases hx with
          | cl hx => cases hx
          | rs _ _ _ hs _ hE =>
            refine .one (.rs j 0 _ hs (Nat.zero_le _) fun _ _ _ _ _ => ?_)
            rw [hEo j t g ht]
            exact hE _ _ _ _ h4
      · simp at hb
    | rs t g => simp [backC] at hb
    | pr t g off => simp [backC] at hb
    | mr t g => simp [backC] at hb
    | xr t g => simp [backC] at hb
    | fr f caps => simp [backC] at hb
    | bp T f => simp [backC] at hb
    | _ => simp only [backC, Option.some.injEq] at hb; subst hb; exact .cl (hx.closed rfl)
  have hobj : ∀ j, ObjOk Z w (obo os) Eo (Eo j) (obo os j).2 := by
    intro j
    by_cases hj : j < os.length
    · obtain ⟨t, g, el, sz, ds, foc, f, h1, h2, h3, h4⟩ := hget j hj
      have hot := hI.obj t
      rw [h4] at hot
      rw [hobo j el sz ds foc h2, hEo j t g h1]
      cases foc with
      | none =>
        simp [backF] at h3
        subst h3
        obtain ⟨xs, q1, q2, q3, q4, q5, q6⟩ := hot
        refine ⟨xs, q1, q2, q3, q4, fun i d hi hd j c hj => ?_, q6⟩
        obtain ⟨r1, u, r2, r3⟩ := q5 i d hi hd j c hj
        exact ⟨r1, u, r2, .cl (r3.closed (noRs_get (q3.2 i d hd (fun _ _ h => nomatch h)) hj))⟩
      | some p =>
        obtain ⟨m, cs⟩ := p
        simp only [backF] at h3
        cases hbl : backL τ cs with
        | none => rw [hbl] at h3; simp at h3
        | some cs' =>
          rw [hbl] at h3
          simp at h3
          subst h3
          obtain ⟨b1, b2⟩ := backL_spec hbl
          obtain ⟨xs, q1, q2, q3, q4, q5, q6⟩ := hot
          have hcx : ∀ k, cellX ds (some (m, cs.map own0)) k = if k = m then some (cs.map own0) else ds[k]? := fun k => rfl
          have hcx0 : ∀ k, cellX ds (some (m, cs')) k = if k = m then some cs' else ds[k]? := fun k => rfl
          refine ⟨xs, q1, q2, ⟨fun m' d' he => ?_, fun i d hd hne => ?_⟩, fun i d hi hd => ?_, fun i d hi hd j' c hj' => ?_, q6⟩
          · simp only [Option.some.injEq, Prod.mk.injEq] at he
            rw [← he.1]
            exact q3.1 m cs' rfl
          · exact q3.2 i d hd (fun m' d'' he => by
              simp only [Option.some.injEq, Prod.mk.injEq] at he
              rw [← he.1]
              exact hne m _ rfl)
          · rw [hcx] at hd
            by_cases hk : i = m
            · rw [if_pos hk] at hd
              injection hd with hd
              subst hd
              rw [List.length_map, ← b1]
              exact q4 i cs' hi (by rw [hcx0, if_pos hk])
            · rw [if_neg hk] at hd
              exact q4 i d hi (by rw [hcx0, if_neg hk]; exact hd)
          · rw [hcx] at hd
            by_cases hk : i = m
            · rw [if_pos hk] at hd
              injection hd with hd
              subst hd
              rw [List.getElem?_map] at hj'
              cases hcj : cs[j']? with
              | none => rw [hcj] at hj'; simp at hj'
              | some c0 =>
                rw [hcj] at hj'
                simp at hj'
                subst hj'
                have hjl : j' < cs'.length := by rw [b1]; exact (List.getElem?_eq_some_iff.1 hcj).1
                have hbc := b2 j' c0 _ hcj (List.getElem?_eq_getElem hjl)
                obtain ⟨r1, u, r2, r3⟩ := q5 i cs' hi (by rw [hcx0, if_pos hk]) j' _ (List.getElem?_eq_getElem hjl)
                refine ⟨?_, u, r2, hcell c0 _ u hbc r3⟩
                rw [← (backC_rs hbc).2.2] at r1
                cases c0 <;> first | exact r1 | rfl
            · rw [if_neg hk] at hd
              obtain ⟨r1, u, r2, r3⟩ := q5 i d hi (by rw [hcx0, if_neg hk]; exact hd) j' c hj'
              exact ⟨r1, u, r2, .cl (r3.closed (noRs_get (q3.2 i d hd (fun m' d'' he => by
                simp only [Option.some.injEq, Prod.mk.injEq] at he
                rw [← he.1]; exact hk)) hj'))⟩
    · have : obo os j = (0, .none) := by simp [obo, List.getElem?_eq_none (Nat.le_of_not_lt hj)]
      rw [this]; trivial
  have hblk : ∀ j b, (obo os j).2.blk (Eo j) b → ∃ t g, τ[j]? = some (t, g) ∧ (st.obj t).2.blk (E t) b := by
    intro j b hb
    by_cases hj : j < os.length
    · obtain ⟨t, g, el, sz, ds, foc, f, h1, h2, h3, h4⟩ := hget j hj
      rw [hobo j el sz ds foc h2, hEo j t g h1, arr_blk] at hb
      exact ⟨t, g, h1, by rw [h4, arr_blk]; exact hb⟩
    · have : obo os j = (0, .none) := by simp [obo, List.getElem?_eq_none (Nat.le_of_not_lt hj)]
      rw [this] at hb; simp [AObj.blk] at hb
  have hap : ∀ j j' b, j ≠ j' → (obo os j).2.blk (Eo j) b → ¬ (obo os j').2.blk (Eo j') b := by
    intro j j' b hne h1 h2
    obtain ⟨t, g, ht, hb⟩ := hblk j b h1
    obtain ⟨t', g', ht', hb'⟩ := hblk j' b h2
    refine hI.apart t t' b (fun e => hne ?_) hb hb'
    subst e
    exact nodup_spec hnd j j' t (by rw [List.getElem?_map, ht]; rfl) (by rw [List.getElem?_map, ht']; rfl)
  have hsl : ∀ j, j < os.length → ∃ a l k, Eo j = .slice a l k := by
    intro j hj
    obtain ⟨t, g, el, sz, ds, foc, f, h1, h2, h3, h4⟩ := hget j hj
    have hot := hI.obj t
    rw [h4] at hot
    obtain ⟨xs, _, hown, _⟩ := hot
    rw [hEo j t g h1]
    rcases hown.2 with ⟨he, _⟩ | ⟨b, cap, cur, he, _⟩ <;> exact ⟨_, _, _, he⟩
  have hfoc : ∀ (k el sz : Nat) (ds : List (List CV)) (m : Nat) (cs : List CV), os[k]? = some (el, sz, ds, some (m, cs)) → noRs cs = true ∧ ∀ (i j : Nat), cs[i]? = some (.ow j) → j < os.length := by
    intro k el sz ds m cs hk
    have hkl : k < os.length := (List.getElem?_eq_some_iff.1 hk).1
    obtain ⟨t, g, el', sz', ds', foc, f, h1, h2, h3, h4⟩ := hget k hkl
    rw [hk] at h2
    simp at h2
    obtain ⟨rfl, rfl, rfl, rfl⟩ := h2
    simp only [backF] at h3
    cases hbl : backL τ cs with
    | none => rw [hbl] at h3; simp at h3
    | some cs' =>
      obtain ⟨b1, b2⟩ := backL_spec hbl
      have hb : ∀ j c, cs[j]? = some c → ∃ c', backC τ c = some c' := fun j c hj => by
        have hjl : j < cs'.length := by rw [b1]; exact (List.getElem?_eq_some_iff.1 hj).1
        exact ⟨_, b2 j c _ hj (List.getElem?_eq_getElem hjl)⟩
      refine ⟨noRs_mk fun j c hj => ?_, fun i j hi => ?_⟩
      · obtain ⟨c', hc'⟩ := hb j c hj; exact (backC_rs hc').1
      · obtain ⟨c', hc'⟩ := hb i _ hi; rw [hol]; exact (backC_rs hc').2.1 j rfl
  have hfr : ∀ j b, (obo os j).2.blk (Eo j) b → ¬ S b := fun j b hb => by
    by_cases hj : j < os.length
    · obtain ⟨t, g, el, sz, ds, foc, f, h1, h2, h3, h4⟩ := hget j hj
      rw [hobo j el sz ds foc h2, hEo j t g h1, arr_blk] at hb
      exact hI.own t b (by rw [h4, arr_blk]; exact hb)
    · have : obo os j = (0, .none) := by unfold obo; rw [List.getElem?_eq_none (by omega)]
      rw [this] at hb
      simp [AObj.blk] at hb
  have agg : ∀ (cs ys : List CV) (vs : List Value), backL τ cs = some ys → ys.length = vs.length → (∀ (i : Nat) (c : CV) (v : Value), ys[i]? = some c → vs[i]? = some v → RepX Z w st.obj E c v) → (∀ (i : Nat) (c : CV), ys[i]? = some c → c.atom = true) →
      RepW Z (fun b => ¬ S b) w (.agg cs) os (.agg vs.toArray) := by
    intro cs ys vs hbl hl hrep hat
    obtain ⟨b1, b2⟩ := backL_spec hbl
    have hb : ∀ j c, cs[j]? = some c → ∃ c', ys[j]? = some c' ∧ backC τ c = some c' := fun j c hj => by
      have hjl : j < ys.length := by rw [b1]; exact (List.getElem?_eq_some_iff.1 hj).1
      exact ⟨_, List.getElem?_eq_getElem hjl, b2 j c _ hj (List.getElem?_eq_getElem hjl)⟩
    refine ⟨Eo, hobj, hap, hfr, hsl, hfoc, vs, noRs_mk fun j c hj => ?_, rfl, by omega, fun i c v h1 h2 => ?_, fun i c h1 => ?_, fun i j hi => ?_⟩
    · obtain ⟨c', _, hc'⟩ := hb j c hj; exact (backC_rs hc').1
    · obtain ⟨c', hy, hc'⟩ := hb i c h1; exact hcell c c' v hc' (hrep i c' v hy h2)
    · obtain ⟨c', hy, hc'⟩ := hb i c h1; rw [(backC_rs hc').2.2]; exact hat i c' hy
    · obtain ⟨c', _, hc'⟩ := hb i _ hi; rw [hol]; exact (backC_rs hc').2.1 j rfl
  split at hr
  · rename_i t j hrs
    cases hτ : τ[j]? with
    | none => rw [hτ] at hr; simp at hr
    | some p =>
      obtain ⟨t', g'⟩ := p
      rw [hτ] at hr
      simp at hr
      have henv := hI.env t
      rw [← hr] at henv
      have hj : j < os.length := by rw [hol]; exact (List.getElem?_eq_some_iff.1 hτ).1
      obtain ⟨t2, g2, el, sz, ds, foc, f, h1, h2, h3, h4⟩ := hget j hj
      rw [hτ] at h1
      simp at h1
      obtain ⟨rfl, rfl⟩ := h1
      refine ⟨a.tmps.getD t undef, results_one hrs rfl, Eo, hobj, hap, hfr, hsl, hfoc, ?_, hj⟩
      generalize a.tmps.getD t undef = y at henv
      cases henv with
      | rs _ _ _ _ _ hE => rw [hEo j t' g' hτ]; exact (hE _ _ _ _ h4).symm
  · rename_i t cs hrs
    cases hbl : backL τ cs with
    | none => rw [hbl] at hr; simp at hr
    | some ys =>
      rw [hbl] at hr
      simp at hr
      have henv := hI.env t
      rw [← hr] at henv
      refine ⟨a.tmps.getD t undef, results_one hrs rfl, ?_⟩
      generalize a.tmps.getD t undef = y at henv
      cases henv with
      | agx _ vs hl hrep ha => exact agg cs ys vs hbl hl hrep ha
  · rename_i y t cs hrs
    split at hr
    · rename_i i s g off hti he
      split at hr
      · rename_i g' ys ho
        obtain ⟨hb, hr⟩ := hr
        have := Nat.eq_of_beq_eq_true hb
        subst this
        obtain ⟨zs, hbl, hp⟩ := hr
        have henv := hI.env y
        rw [he] at henv
        obtain ⟨b, _, hx, f, hc⟩ := varx_cells hI ho henv
        obtain ⟨v, hv, hrep⟩ := run_partX (o := 0) (hT _ _ hti) (fun j c hj => by rw [Nat.zero_add]; exact hc j c hj) hp
        refine ⟨v, results_one hrs ?_, ?_⟩
        · simp only [Instr.loadAt, Instr.sureAddr, Sem.run_bind, Sem.run_pure, Result.andThen_ok, Nat.zero_add] at hv
          simp only [readRes, hx, asAddr, Sem.run_bind, Sem.run_pure, Result.andThen_ok, hv]
        · simp only [svOf] at hrep
          cases hn : noRs zs with
          | true =>
            rw [hn] at hrep
            cases hrep with
            | c _ _ hr =>
              cases hr with
              | agg _ vs hl hr ha => exact agg cs zs vs hbl hl (fun i c v h1 h2 => .cl (hr i c v h1 h2)) ha
          | false =>
            rw [hn] at hrep
            cases hrep with
            | agx _ vs hl hr ha => exact agg cs zs vs hbl hl hr ha
      · exact hr.elim
    · exact hr.elim
  · exact hr.elim

theorem ObjOk.nodfr {obj : Objs} {o : AObj} {e : Value} {b : Nat} (h : ObjOk Z w obj E e o) (hb : o.blk e b) : w.heap[b]? ≠ some dfr0 := by
  intro hd
  cases o with
  | none => simp [AObj.blk] at hb
  | spent => simp [AObj.blk] at hb
  | var cs =>
    obtain ⟨b', el, arr, he, hh, _⟩ := h
    rw [he] at hb; simp [AObj.blk] at hb; subst hb
    rw [hh] at hd; exact nomatch hd
  | ro cs =>
    obtain ⟨b', el, arr, he, hh, _⟩ := h
    rw [he] at hb; simp [AObj.blk] at hb; subst hb
    rw [hh] at hd; exact nomatch hd
  | tok el sz =>
    obtain ⟨m, xs, hsz, hown, _⟩ := h
    rw [tok_blk] at hb
    obtain ⟨cur, hc⟩ := own_cells hown hb
    rw [hc] at hd; exact nomatch hd
  | varx cs =>
    obtain ⟨b', el, arr, he, hh, _⟩ := h
    rw [he] at hb; simp [AObj.blk] at hb; subst hb
    rw [hh] at hd; exact nomatch hd
  | arr el sz ds foc =>
    obtain ⟨xs, hsz, hown, _⟩ := h
    rw [arr_blk] at hb
    obtain ⟨cur, hc⟩ := own_cells hown hb
    rw [hc] at hd; exact nomatch hd
  | map es =>
    obtain ⟨b', arr, clock, he, hh, _⟩ := h
    rw [he] at hb; simp [AObj.blk] at hb; subst hb
    rw [hh] at hd; exact nomatch hd
  | lp l R q =>
    simp [AObj.blk] at hb; subst hb
    rw [h.1] at hd; exact nomatch hd
  | ext K cs =>
    obtain ⟨us, _, _, hok, _⟩ := h
    obtain ⟨_, _, _, hh⟩ := K.cell hok hb
    rw [hh] at hd; exact nomatch hd
theorem Keeps.putDfr {r : Nat} (hD : w.heap[r]? = some dfr0) : Keeps Z w Z (w.putObj r (.deferred none)) := fun b o hz => by
  refine ⟨hz, ?_⟩
  by_cases hb : b = r
  · subst hb
    have h2 : (w.putObj b (.deferred none)).heap[b]? = some (.deferred none) := World.putObj_heap_same (Array.getElem?_eq_some_iff.1 hD).1
    refine ⟨?_, fun es c he => by rw [hD] at he; exact nomatch he⟩
    simp [World.cell?, h2, hD, dfr0]
  · exact keep_heap (World.putObj_heap_other hb)
theorem DefOk.put {B r : Nat} : ∀ {ds : List Deferred}, (∀ d' ∈ ds, d' ≠ { target := .collected r, args := #[] }) → DefOk B w ds → DefOk B (w.putObj r (.deferred none)) ds
  | [], _, _ => trivial
  | d :: ds, hne, ⟨⟨r', h1, h2, h3, h4⟩, h⟩ => by
    refine ⟨⟨r', h1, (World.putObj_heap_other (fun e => ?_)).trans h2, h3, h4⟩, DefOk.put (fun d' hd' => hne d' (List.mem_cons_of_mem _ hd')) h⟩
    subst e
    exact hne d (List.mem_cons_self ..) h1
/-- A mark among the deferred calls is come to: its block is shut. -/
theorem Inv.shut (hI : Inv G Z0 w0 S n Z E st a w) {d : Deferred} {ds : List Deferred} (hd : a.defers = d :: ds) : ∃ r, d.target = .collected r ∧ (Instr.takeDeferred r).run P w = .ok [] (w.putObj r (.deferred none)) ∧
    Inv G Z0 w0 S n Z E st { a with defers := ds } (w.putObj r (.deferred none)) := by
  have hdf := hI.defers
  rw [hd] at hdf
  obtain ⟨⟨r, hr, hD, hB, hne⟩, hds⟩ := hdf
  have hoth : ∀ k, k ≠ r → (w.putObj r (.deferred none)).heap[k]? = w.heap[k]? := fun k hk => World.putObj_heap_other hk
  have hk : Keeps Z w Z (w.putObj r (.deferred none)) := .putDfr hD
  refine ⟨r, by rw [hr], run_takeDeferred hD, ?_⟩
  exact
  { gs := hI.gs
    slt := hI.slt
    below := ⟨hI.below.os, hI.below.tape, hI.below.output, by simpa using hI.below.size, fun k hk => (hoth k (fun e => by have := hI.slt k hk; omega)).trans (hI.below.block k hk),
      fun k hk => (hoth k (fun e => by have := (Array.getElem?_eq_some_iff.1 hk).1; omega)).trans (hI.below.dfr k hk)⟩
    defers := DefOk.put hne hds
    sz := hI.sz
    zlt := fun b o h => by simpa using hI.zlt b o h
    keeps := hI.keeps.trans hk
    pin := hI.pin
    znew := hI.znew
    env := fun t => (hI.env t).keep hk (ObjKeep.refl _ _)
    obj := fun t => (hI.obj t).keep hk (ObjKeep.refl _ _) fun b hb => ⟨hoth b (fun e => (hI.obj t).nodfr hb (e ▸ hD)), fun _ h => h⟩
    own := hI.own
    apart := hI.apart }
theorem leaves_marks {fn : Func} {R : Ending → World → Prop} : ∀ (ds : List Deferred) (a : Act) (w : World), a.defers = ds → Inv G Z0 w0 S n Z E st a w →
    (∀ w', Inv G Z0 w0 S n Z E st { a with defers := [] } w' → LeavesIn (FnR none) 0 P fn a.tmps R [] .returning w') → LeavesInM (FnR none) 0 P fn a.tmps R ds .returning w
  | [], a, w, hd, hI, h => h w (by have : a = { a with defers := [] } := by cases a; simp only at hd; rw [hd]
                                   rw [← this]; exact hI)
  | d :: ds, a, w, hd, hI, h => by
    obtain ⟨r, h1, h2, h3⟩ := hI.shut (P := P) hd
    exact ⟨fun e => (nomatch e), .inl ⟨r, _, h1, h2, leaves_marks ds { a with defers := ds } _ rfl h3 h⟩⟩

/-- A function meets its contract if its body's abstract weakest precondition holds. -/
theorem holds_of_wp (hT : TOk P T) (hm : P.follows .mixedOrders = true) {f : FuncId} {fn : Func} {code : Code} {args : List CV} {r : CV} (hf : P.funcs[f]? = some fn) (hname : (fn.name == "runtime.NumGoroutine") = false) (hb : fn.body = some code) (hn : args.length ≤ fn.ntmps)
    (h : wpA (orc P G) T fn.ntmps code (resOk T fn.results.toList r) (initSt args)) : Holds P G f args r := by
  refine ⟨⟨fn, hf, hname, by rw [hb]; rfl⟩, ?_⟩
  intro Z w vs hrep hz hgw
  refine callsIn_fnR.1 (callsIn_of_wp_marks (F := FnR none) (n := 0) hf hb trivial ?_)
  have hvl : vs.length ≤ fn.ntmps := by rw [← hrep.1]; exact hn
  have hI : Inv G ⟨Z, fun _ => (0, .none), fun _ => undef⟩ w (fun k => k < w.heap.size) fn.ntmps Z (fun _ => undef) (initSt args) { tmps := vs.toArray ++ Array.replicate (fn.ntmps - vs.toArray.size) undef, defers := [] } w :=
    { gs := fun w' h => hgw w' h.below
      slt := fun _ h => h
      below := Kept.refl _ _
      defers := trivial
      sz := by simp; omega
      zlt := hz
      keeps := Keeps.refl _ _
      pin := PinKeep.refl _ _
      znew := fun _ _ h => .inl h
      env := fun t => by
        have hg : (vs.toArray ++ Array.replicate (fn.ntmps - vs.toArray.size) undef).getD t undef = vs.getD t undef := by
          rw [Array.getD_eq_getD_getElem?, Array.getElem?_append]
          split
          · simp [List.getD_eq_getElem?_getD]
          · rename_i hge
            simp at hge
            rw [Array.getElem?_replicate]
            rw [List.getD_eq_getElem?_getD, List.getElem?_eq_none hge]
            split <;> rfl
        rw [hg]
        exact init_rep args vs hrep t
      obj := fun t => trivial
      own := fun t b hb => by simp [initSt, AObj.blk] at hb
      apart := fun t t' b _ hb => by simp [initSt, AObj.blk] at hb }
  refine wpA_sound hT hm code (.inl rfl) (fun e Z' E' st' a' w' hk hI' => ?_) Z _ _ _ w hI h
  have fin : ∀ w', Inv G ⟨Z, fun _ => (0, .none), fun _ => undef⟩ w (fun k => k < w.heap.size) fn.ntmps Z' E' st' { a' with defers := [] } w' → resFin T fn.results.toList r st' → ∃ v, (results fn a'.tmps).run P w' = .ok v w' ∧
      ∃ (x : Value) (Z'' : Zone), Ending.returned v = .returned x ∧ RepR Z'' (fun b => w.heap.size ≤ b) w' r x ∧ (∀ b o, Z b o → Z'' b o) ∧ (∀ b o, Z'' b o → (Z b o ∨ w.heap.size ≤ b) ∧ b < w'.heap.size) ∧ Below w.heap.size w w' := by
    intro w' hI'
    have closed : ∀ v, (results fn a'.tmps).run P w' = .ok v w' → Rep (Zall Z' st'.obj E') w' r v → ∃ v, (results fn a'.tmps).run P w' = .ok v w' ∧
        ∃ (x : Value) (Z'' : Zone), Ending.returned v = .returned x ∧ RepR Z'' (fun b => w.heap.size ≤ b) w' r x ∧ (∀ b o, Z b o → Z'' b o) ∧ (∀ b o, Z'' b o → (Z b o ∨ w.heap.size ≤ b) ∧ b < w'.heap.size) ∧ Below w.heap.size w w' := by
      intro v hv hr
      refine ⟨v, hv, v, _, rfl, .mk hr, fun b o hz => .inl (hI'.z0 b o hz), fun b o hz => ?_, hI'.below.below⟩
      rcases hz with hz | ⟨s, hs⟩
      · exact ⟨(hI'.znew b o hz).imp id Nat.le_of_not_lt, hI'.zlt b o hz⟩
      · exact ⟨.inr (Nat.le_of_not_lt (hI'.own s b hs)), (hI'.obj s).lt hs⟩
    intro hfin
    clear hk
    unfold resFin at hfin
    rcases hfin with ⟨hp, hres⟩ | hres
    · obtain ⟨v, hv, hr⟩ := results_run hT hI' hres
      exact ⟨v, hv, v, Z', rfl, .mk hr, hI'.z0, fun b o hz => ⟨(hI'.znew b o hz).imp id Nat.le_of_not_lt, hI'.zlt b o hz⟩, hI'.below.below⟩
    · split at hres
      · rename_i r os
        obtain ⟨v, hv, hr⟩ := resW_run hT hI' hres
        exact ⟨v, hv, v, Z', rfl, hr.fr fun _ => Nat.le_of_not_lt, hI'.z0, fun b o hz => ⟨(hI'.znew b o hz).imp id Nat.le_of_not_lt, hI'.zlt b o hz⟩, hI'.below.below⟩
      · rename_i cs
        obtain ⟨vs, hvs, hrs, hl⟩ := resXs_run hT hI' _ _ hres.1
        exact closed _ (results_many hvs (by rw [← hrs.1, hl]; exact hres.2)) (.tup cs vs hrs.1 hrs.2)
      · split at hres
        · rename_i rv hrs
          obtain ⟨v, hv, hr⟩ := resX_run hT hI' hres
          exact closed v (results_one hrs hv) hr
        · exact hres.elim
  cases e with
  | normal => exact leaves_marks a'.defers a' w' rfl hI' fun w2 hI2 => fin w2 hI2 hk
  | ret => exact leaves_marks a'.defers a' w' rfl hI' fun w2 hI2 => fin w2 hI2 hk
  | exit id => exact hk.elim
  | goto l => exact hk.elim
  | panic ch => exact hk.elim
  | outgrown => exact hk.elim

theorem tok_nil (P : Program) : TOk P [] := fun t i h => by simp [Tab.get] at h
theorem tok_cons {P : Program} {t : Nat} {i : TI} {r : Tab} (h : TOk1 P t i) (hr : TOk P r) : TOk P ((t, i) :: r) := fun t' i' h' => by
  simp only [Tab.get] at h'
  cases hb : Nat.beq t t' with
  | true =>
    rw [hb] at h'
    simp only [cond_true, Option.some.injEq] at h'
    have := Nat.eq_of_beq_eq_true hb
    subst this; subst h'
    exact h
  | false => rw [hb] at h'; exact hr t' i' h'
end
end Go.Abs

/-
  The abstract weakest precondition is monotone; a rule for loops.
-/
namespace Go.Abs
open Go Go.RowKit

section
variable {H : Orc} {T : Tab} {n : Nat}

theorem wpOps_mono (all : List Oper) {K K' : St → Prop} (hk : ∀ st, K st → K' st) : ∀ (l : List Oper) (st : St), wpOps H T n all l st K → wpOps H T n all l st K'
  | [], st, h => hk st h
  | o :: rest, st, h => by
    simp only [wpOps] at h ⊢
    replace h := bif_true h
    obtain ⟨hd, h⟩ := h
    simp only [hd, cond_true]
    have go := fun st => wpOps_mono all hk rest st
    have ex : ∀ st : St, (wpO H T (look st) st.obj o.dst o.op o.type fun r _ u => wpOps H T n all rest ⟨put st.env o.dst r, upd st.obj u⟩ K) → (wpO H T (look st) st.obj o.dst o.op o.type fun r _ u => wpOps H T n all rest ⟨put st.env o.dst r, upd st.obj u⟩ K') :=
      fun st h => wpO_mono h fun r _ u h => go _ h
    split at h
    · split at h
      · unfold wpNil at h ⊢
        split at h
        · exact fun b hb => go _ (h b hb)
        · exact ⟨h.1, h.2.1, go _ h.2.2⟩
      · exact ex st h
    · rename_i j want _
      split at h
      · exact h.elim
      · split at h
        · cases want
          · exact go _ h
          · exact ex st h
        · cases want
          · exact ex st h
          · exact go _ h
        · rename_i dj _ _ _ _ b _
          refine ⟨fun hb => ?_, fun hb => ?_⟩
          · have h1 := h.1 hb
            cases want
            · exact go _ h1
            · exact ex ⟨put st.env (some _) .kt, st.obj⟩ h1
          · have h1 := h.2 hb
            cases want
            · exact ex ⟨put st.env (some _) .kf, st.obj⟩ h1
            · exact go _ h1
        · exact go _ h
        · exact h.elim
theorem refineK_mono {g : Bool} {r : SV} {K K' : SV → Prop} (hk : ∀ r, K r → K' r) (h : refineK g r K) : refineK g r K' := by
  unfold refineK at h ⊢
  cases g with
  | false => exact hk _ h
  | true =>
    simp only [cond_true] at h ⊢
    split at h
    · exact ⟨fun hb => hk _ (h.1 hb), fun hb => hk _ (h.2 hb)⟩
    · exact hk _ h
theorem wpTr_mono (all : List Oper) {K K' : List Ent → St → Prop} (hk : ∀ tr st, K tr st → K' tr st) : ∀ (l : List Oper) (i : Nat) (st : St) (tr : List Ent), wpTr H T n all i l st tr K → wpTr H T n all i l st tr K'
  | [], i, st, tr, h => hk _ _ h
  | o :: rest, i, st, tr, h => by
    simp only [wpTr] at h ⊢
    replace h := bif_true h
    obtain ⟨hd, h⟩ := h
    simp only [hd, cond_true]
    have go := fun i st tr => wpTr_mono all hk rest i st tr
    have ex : (wpO H T (look st) st.obj o.dst o.op o.type fun r rd u => refineK (isGuard all i) r fun r => wpTr H T n all (i + 1) rest (stepSt st o ⟨r, rd, u⟩) (⟨r, rd, u⟩ :: tr) K) →
        (wpO H T (look st) st.obj o.dst o.op o.type fun r rd u => refineK (isGuard all i) r fun r => wpTr H T n all (i + 1) rest (stepSt st o ⟨r, rd, u⟩) (⟨r, rd, u⟩ :: tr) K') :=
      fun h => wpO_mono h fun r rd u h => refineK_mono (fun r h => go _ _ _ h) h
    split at h
    · exact ex h
    · rename_i j want _
      split at h
      · exact h.elim
      · split at h
        · cases want
          · exact go _ _ _ h
          · exact ex h
        · cases want
          · exact ex h
          · exact go _ _ _ h
        · exact go _ _ _ h
        · exact h.elim
theorem wpA_mono (code : Code) : ∀ {K K' : Exit → St → Prop} (_ : ∀ e st, K e st → K' e st) (st : St), wpA H T n code K st → wpA H T n code K' st := by
  induction code with
  | skip => intro K K' hk st h; exact hk _ _ h
  | region id ops draw =>
    intro K K' hk st h
    simp only [wpA] at h ⊢
    cases draw with
    | true => exact wpTr_mono ops.toList (fun tr st h => ⟨h.1, hk _ _ h.2⟩) _ _ _ _ h
    | false => exact wpOps_mono _ (fun st h => hk _ _ h) _ _ h
  | seq a b iha ihb =>
    intro K K' hk st h
    simp only [wpA] at h ⊢
    cases hj : isJoin a with
    | true =>
      rw [hj] at h
      simp only [cond_true] at h ⊢
      refine iha (fun e st h => ?_) st h
      cases e with
      | normal => exact h.imp (ihb hk st) fun ⟨st0, hw, h⟩ => ⟨st0, hw, ihb hk st0 h⟩
      | _ => exact hk _ _ h
    | false =>
      rw [hj] at h
      simp only [cond_false] at h ⊢
      refine iha (fun e st h => ?_) st h
      cases e with
      | normal => exact ihb hk st h
      | _ => exact hk _ _ h
  | cond c a b iha ihb =>
    intro K K' hk st h
    simp only [wpA] at h ⊢
    split at h
    · exact iha hk st h
    · exact ihb hk st h
    · exact ⟨fun hq => iha hk st (h.1 hq), fun hq => ihb hk st (h.2 hq)⟩
    · exact h.elim
  | block id body ih =>
    intro K K' hk st h
    simp only [wpA] at h ⊢
    refine ih (fun e st h => ?_) st h
    cases e with
    | exit j =>
      simp only at h ⊢
      cases hb : Nat.beq j id with
      | true => rw [hb] at h; exact hk _ _ h
      | false => rw [hb] at h; exact hk _ _ h
    | _ => exact hk _ _ h
  | loop body ih =>
    intro K K' hk st h
    simp only [wpA] at h ⊢
    obtain ⟨I, h0, hs⟩ := h
    refine ⟨I, h0, fun k st1 hi => ih (fun e st h => ?_) st1 (hs k st1 hi)⟩
    cases e with
    | normal => exact h
    | _ => exact hk _ _ h
  | exit id => intro K K' hk st h; exact hk _ _ h
  | ret => intro K K' hk st h; exact hk _ _ h
  | rangeFunc g ps x y =>
    intro K K' hk st h
    obtain ⟨s0, env, f, caps, h1, h2, h3, h⟩ := h
    refine ⟨s0, env, f, caps, h1, h2, h3, fun l R q1 q2 q3 q4 => ?_⟩
    obtain ⟨τ, off, args, os, r, os', k1, k2, k3, k4, g', b, J, k5, k6, k7⟩ := h l R q1 q2 q3 q4
    refine ⟨τ, off, args, os, r, os', k1, k2, k3, k4, g', b, J, k5, fun hb => hk _ _ (k6 hb), fun hb => ?_⟩
    have := k7 hb
    unfold jmpK at this ⊢
    split at this
    · exact hk _ _ this
    · exact hk _ _ this
    · exact this.elim
  | _ => intro K K' hk st h; exact h.elim

/-- A loop: at its head the slots and objects that are listed are known, as functions of x; μ goes down. -/
theorem loop_of {α : Type} (mk : α → List (Nat × SV)) (mo : α → List (Nat × AObj)) (I : α → Prop) (μ : α → Nat) (x0 : α) {body : Code} {K : Exit → St → Prop} {st : St} (h0 : I x0) (he : EnvOk st (mk x0)) (ho : ObjsOk st (mo x0))
    (step : ∀ x, I x → wpA H T n body (fun e st2 => match e with | .normal => ∃ x', μ x' < μ x ∧ I x' ∧ EnvOk st2 (mk x') ∧ ObjsOk st2 (mo x') | e => K e st2) ⟨mkEnv (mk x), mkObj (mo x)⟩) :
    wpA H T n (.loop body) K st := by
  refine ⟨fun k st => ∃ x, I x ∧ k = μ x ∧ st = ⟨mkEnv (mk x), mkObj (mo x)⟩, ⟨μ x0, _, weak_mk he ho, x0, h0, rfl, rfl⟩, ?_⟩
  rintro k st ⟨x, hx, rfl, rfl⟩
  refine wpA_mono body (fun e st2 h => ?_) _ (step x hx)
  cases e with
  | normal =>
    obtain ⟨x', hlt, hx', he', ho'⟩ := h
    exact ⟨μ x', _, hlt, weak_mk he' ho', x', hx', rfl, rfl⟩
  | _ => exact h
end
theorem holds_mk {P : Program} {G : World → Prop} {f : FuncId} {args : List CV} {r : CV} (hb : HasBody P f) (h : ∀ (Z : Zone) (w : World) (vs : List Value), RepL Z w args vs → (∀ b o, Z b o → b < w.heap.size) → G w →
    Calls P f vs.toArray w fun e w' => ∃ (x : Value) (Z' : Zone), e = .returned x ∧ Rep Z' w' r x ∧ (∀ b o, Z b o → Z' b o) ∧
      (∀ b o, Z' b o → (Z b o ∨ w.heap.size ≤ b) ∧ b < w'.heap.size) ∧ Below w.heap.size w w') : Holds P G f args r :=
  ⟨hb, fun Z w vs h1 h2 h3 => (h Z w vs h1 h2 (h3 w (Below.refl _ _))).mono fun _ _ ⟨x, Z', q1, q2, q3⟩ => ⟨x, Z', q1, .mk q2, q3⟩⟩
theorem holds_use {P : Program} {G : World → Prop} (hG : ∀ w w', G w → Below w.heap.size w w' → G w') {f : FuncId} {args : List CV} {r : CV} (h : Holds P G f args r) (hp : r.pure = true) : HasBody P f ∧ ∀ (Z : Zone) (w : World) (vs : List Value), RepL Z w args vs → (∀ b o, Z b o → b < w.heap.size) → G w →
    Calls P f vs.toArray w fun e w' => ∃ (x : Value) (Z' : Zone), e = .returned x ∧ Rep Z' w' r x ∧ (∀ b o, Z b o → Z' b o) ∧
      (∀ b o, Z' b o → (Z b o ∨ w.heap.size ≤ b) ∧ b < w'.heap.size) ∧ Below w.heap.size w w' :=
  ⟨h.1, fun Z w vs h1 h2 h3 => (h.2 Z w vs h1 h2 (hG w · h3)).mono fun _ _ ⟨x, Z', q1, q2, q3⟩ => ⟨x, Z', q1, q2.pure hp, q3⟩⟩
end Go.Abs

/-
  The abstract weakest precondition once more, by the recursors themselves: the kernel and the elaborator then unfold it to the same terms.
-/
namespace Go.Abs
open Go Go.RowKit

section
variable (H : Orc) (T : Tab) (n : Nat)
def wqOpsF (all : List Oper) (o : Oper) (ih : St → (St → Prop) → Prop) (st : St) (K : St → Prop) : Prop :=
    bif inRange n o.dst then
      match o.guard with
      | .none => match nilCmp o.op with
        | some (q, t, x) => wpNil T st q t x fun r => ih ⟨put st.env o.dst r, st.obj⟩ K
        | .none => wpO H T (look st) st.obj o.dst o.op o.type fun r _ u => ih ⟨put st.env o.dst r, upd st.obj u⟩ K
      | some (j, want) => match (all[j]?).bind (·.dst) with
        | .none => False
        | some dj => match st.env dj with
          | .kt => bif want then wpO H T (look st) st.obj o.dst o.op o.type fun r _ u => ih ⟨put st.env o.dst r, upd st.obj u⟩ K
              else ih ⟨put st.env o.dst .un, st.obj⟩ K
          | .kf => bif want then ih ⟨put st.env o.dst .un, st.obj⟩ K
              else wpO H T (look st) st.obj o.dst o.op o.type fun r _ u => ih ⟨put st.env o.dst r, upd st.obj u⟩ K
          | .c (.v (.bool b)) =>
              (b = true → bif want then wpO H T (look ⟨put st.env (some dj) .kt, st.obj⟩) st.obj o.dst o.op o.type fun r _ u => ih ⟨put (put st.env (some dj) .kt) o.dst r, upd st.obj u⟩ K
                else ih ⟨put (put st.env (some dj) .kt) o.dst .un, st.obj⟩ K) ∧
              (b = false → bif want then ih ⟨put (put st.env (some dj) .kf) o.dst .un, st.obj⟩ K
                else wpO H T (look ⟨put st.env (some dj) .kf, st.obj⟩) st.obj o.dst o.op o.type fun r _ u => ih ⟨put (put st.env (some dj) .kf) o.dst r, upd st.obj u⟩ K)
          | .un => ih ⟨put st.env o.dst .un, st.obj⟩ K
          | _ => False
    else False
def wqOps (all l : List Oper) : St → (St → Prop) → Prop :=
  List.rec (motive := fun _ => St → (St → Prop) → Prop) (fun st K => K st) (fun o _ ih => wqOpsF H T n all o ih) l
def wqTrF (all : List Oper) (o : Oper) (ih : Nat → St → List Ent → (List Ent → St → Prop) → Prop) (i : Nat) (st : St) (tr : List Ent) (K : List Ent → St → Prop) : Prop :=
    bif inRange n o.dst then
      match o.guard with
      | .none => wpO H T (look st) st.obj o.dst o.op o.type fun r rd u => refineK (isGuard all i) r fun r => ih (i + 1) (stepSt st o ⟨r, rd, u⟩) (⟨r, rd, u⟩ :: tr) K
      | some (j, want) => match (all[j]?).bind (·.dst) with
        | .none => False
        | some dj => match st.env dj with
          | .kt => bif want then wpO H T (look st) st.obj o.dst o.op o.type fun r rd u => refineK (isGuard all i) r fun r => ih (i + 1) (stepSt st o ⟨r, rd, u⟩) (⟨r, rd, u⟩ :: tr) K
              else ih (i + 1) (stepSt st o ⟨.un, [], []⟩) (⟨.un, [], []⟩ :: tr) K
          | .kf => bif want then ih (i + 1) (stepSt st o ⟨.un, [], []⟩) (⟨.un, [], []⟩ :: tr) K
              else wpO H T (look st) st.obj o.dst o.op o.type fun r rd u => refineK (isGuard all i) r fun r => ih (i + 1) (stepSt st o ⟨r, rd, u⟩) (⟨r, rd, u⟩ :: tr) K
          | .un => ih (i + 1) (stepSt st o ⟨.un, [], []⟩) (⟨.un, [], []⟩ :: tr) K
          | _ => False
    else False
def wqTr (all l : List Oper) : Nat → St → List Ent → (List Ent → St → Prop) → Prop :=
  List.rec (motive := fun _ => Nat → St → List Ent → (List Ent → St → Prop) → Prop) (fun _ st tr K => K tr.reverse st) (fun o _ ih => wqTrF H T n all o ih) l
def wqDraw (ops : List Oper) (st : St) (K : St → Prop) : Prop :=
  wqTr H T n ops ops 0 st [] fun tr st' => noConf ops tr = true ∧ K st'
theorem wqOps_eq (all : List Oper) : ∀ (l : List Oper), wqOps H T n all l = fun st K => wpOps H T n all l st K
  | [] => rfl
  | o :: rest => by
    have ih := wqOps_eq all rest
    show wqOpsF H T n all o (wqOps H T n all rest) = _
    rw [ih]
    rfl
theorem wqTr_eq (all : List Oper) : ∀ (l : List Oper), wqTr H T n all l = fun i st tr K => wpTr H T n all i l st tr K
  | [] => rfl
  | o :: rest => by
    have ih := wqTr_eq all rest
    show wqTrF H T n all o (wqTr H T n all rest) = _
    rw [ih]
    rfl
def seqK (b : (Exit → St → Prop) → St → Prop) (K : Exit → St → Prop) (e : Exit) (st : St) : Prop := match e with | .normal => b K st | e => K e st
def blockK (id : Nat) (K : Exit → St → Prop) (e : Exit) (st : St) : Prop := match e with | .exit j => bif Nat.beq j id then K .normal st else K e st | e => K e st
def condK (s : SV) (a b : (Exit → St → Prop) → St → Prop) (K : Exit → St → Prop) (st : St) : Prop := match s with
    | .kt => a K st
    | .kf => b K st
    | .c (.v (.bool q)) => (q = true → a K st) ∧ (q = false → b K st)
    | _ => False
def loopK (I : Nat → St → Prop) (k : Nat) (K : Exit → St → Prop) (e : Exit) (st2 : St) : Prop := match e with | .normal => ∃ k' st3, k' < k ∧ Weak st2 st3 ∧ I k' st3 | e => K e st2
inductive loopP (H' : Orc) (T' : Tab) (n' : Nat) (c : Code) (body : (Exit → St → Prop) → St → Prop) (K : Exit → St → Prop) (st : St) : Prop
  | mk (h : ∃ I : Nat → St → Prop, (∃ k st0, Weak st st0 ∧ I k st0) ∧ ∀ k st1, I k st1 → body (loopK I k K) st1)
def seqJ (b : (Exit → St → Prop) → St → Prop) (K : Exit → St → Prop) (e : Exit) (st : St) : Prop := match e with | .normal => b K st ∨ ∃ st0, Weak st st0 ∧ b K st0 | e => K e st
/-- A piece of code behind which ways join. -/
inductive joinP (c d : Code) (a b : (Exit → St → Prop) → St → Prop) (K : Exit → St → Prop) (st : St) : Prop
  | mk (h : a (seqJ b K) st)
/-- A range over a function. -/
inductive rangeP (H' : Orc) (n' : Nat) (g : Operand) (ps : Array Tmp) (x y : Code) (K : Exit → St → Prop) (st : St) : Prop
  | mk (h : wpRange H' n' g ps x y K st)
def wqA (code : Code) : (Exit → St → Prop) → St → Prop :=
  Code.rec (motive := fun _ => (Exit → St → Prop) → St → Prop)
    (fun K st => K .normal st)
    (fun _ ops draw K st => bif draw then wqDraw H T n ops.toList st (K .normal) else wqOps H T n ops.toList ops.toList st (K .normal))
    (fun x y a b K st => bif isJoin x then joinP x y a b K st else a (seqK b K) st)
    (fun c _ _ a b K st => condK (look st c) a b K st)
    (fun id _ body K st => body (blockK id K) st)
    (fun c body K st => loopP H T n c body K st)
    (fun g ps x y _ _ K st => rangeP H n g ps x y K st)
    (fun id K st => K (.exit id) st)
    (fun _ _ _ _ => False)
    (fun _ _ _ => False)
    (fun _ _ _ => False)
    (fun K st => K .ret st)
    (fun _ _ _ => False)
    code
theorem wqA_eq : ∀ (code : Code), wqA H T n code = fun K st => wpA H T n code K st
  | .skip => rfl
  | .region _ ops draw => by
    funext K st
    show (bif draw then wqDraw H T n ops.toList st (K .normal) else wqOps H T n ops.toList ops.toList st (K .normal)) = _
    rw [wqOps_eq, wqDraw, wqTr_eq]
    rfl
  | .seq a b => by
    funext K st
    show (bif isJoin a then joinP a b (wqA H T n a) (wqA H T n b) K st else wqA H T n a (seqK (wqA H T n b) K) st) = _
    rw [wqA_eq a, wqA_eq b]
    show _ = bif isJoin a then _ else _
    cases isJoin a with
    | true => exact propext ⟨fun ⟨h⟩ => h, fun h => ⟨h⟩⟩
    | false => rfl
  | .cond c a b => by
    funext K st
    show condK (look st c) (wqA H T n a) (wqA H T n b) K st = _
    rw [wqA_eq a, wqA_eq b]
    rfl
  | .block id body => by
    funext K st
    show wqA H T n body (blockK id K) st = _
    rw [wqA_eq body]
    rfl
  | .loop body => by
    funext K st
    show loopP H T n body (wqA H T n body) K st = _
    rw [wqA_eq body]
    exact propext ⟨fun ⟨h⟩ => h, fun h => ⟨h⟩⟩
  | .rangeFunc g ps x y => by
    funext K st
    exact propext ⟨fun ⟨h⟩ => h, fun h => ⟨h⟩⟩
  | .exit _ => rfl
  | .scope _ => rfl
  | .label _ => rfl
  | .goto _ => rfl
  | .ret => rfl
  | .refuse _ => rfl
end
def roundK {α : Type} (mk : α → List (Nat × SV)) (mo : α → List (Nat × AObj)) (I : α → Prop) (μ : α → Nat) (x : α) (K : Exit → St → Prop) (e : Exit) (st2 : St) : Prop :=
  match e with | .normal => ∃ x', μ x' < μ x ∧ I x' ∧ EnvOk st2 (mk x') ∧ ObjsOk st2 (mo x') | e => K e st2
/-- No join is made. -/
theorem join_no {H : Orc} {T : Tab} {n : Nat} {a b : Code} {K : Exit → St → Prop} {st : St} (h : wqA H T n a (seqK (wqA H T n b) K) st) : joinP a b (wqA H T n a) (wqA H T n b) K st := by
  refine ⟨?_⟩
  rw [wqA_eq] at h ⊢
  refine wpA_mono a (fun e st h => ?_) st h
  cases e with
  | normal => exact .inl h
  | _ => exact h
def joinK {α : Type} (mk : α → List (Nat × SV)) (mo : α → List (Nat × AObj)) (I : α → Prop) (K : Exit → St → Prop) (e : Exit) (st2 : St) : Prop :=
  match e with | .normal => ∃ x, I x ∧ EnvOk st2 (mk x) ∧ ObjsOk st2 (mo x) | e => K e st2
/-- A join: behind it the slots and objects that are listed are known, as functions of x. -/
theorem join_oq {H : Orc} {T : Tab} {n : Nat} {α : Type} (mk : α → List (Nat × SV)) (mo : α → List (Nat × AObj)) (I : α → Prop) {a b : Code} {K : Exit → St → Prop} {st : St}
    (hb : ∀ x, I x → wqA H T n b K ⟨mkEnv (mk x), mkObj (mo x)⟩) (ha : wqA H T n a (joinK mk mo I K) st) : joinP a b (wqA H T n a) (wqA H T n b) K st := by
  refine ⟨?_⟩
  rw [wqA_eq] at ha ⊢
  refine wpA_mono a (fun e st2 h => ?_) st ha
  cases e with
  | normal =>
    obtain ⟨x, hx, he, ho⟩ := h
    exact .inr ⟨_, weak_mk he ho, hb x hx⟩
  | _ => exact h
/-- A loop: at its head the slots and objects that are listed are known, as functions of x; μ goes down. -/
theorem loop_oq {H : Orc} {T : Tab} {n : Nat} {α : Type} (mk : α → List (Nat × SV)) (mo : α → List (Nat × AObj)) (I : α → Prop) (μ : α → Nat) (x0 : α) {body : Code} {K : Exit → St → Prop} {st : St} (h0 : I x0) (he : EnvOk st (mk x0)) (ho : ObjsOk st (mo x0))
    (step : ∀ x, I x → wqA H T n body (roundK mk mo I μ x K) ⟨mkEnv (mk x), mkObj (mo x)⟩) :
    loopP H T n body (wqA H T n body) K st := by
  show wqA H T n (.loop body) K st
  rw [wqA_eq]
  refine loop_of mk mo I μ x0 h0 he ho fun x hx => ?_
  have h := step x hx
  rw [wqA_eq] at h
  exact h
theorem holds_of_wq {P : Program} {G : World → Prop} {T : Tab} (hT : TOk P T) (hm : P.follows .mixedOrders = true) {f : FuncId} {fn : Func} {code : Code} {args : List CV} {r : CV} (hf : P.funcs[f]? = some fn) (hname : (fn.name == "runtime.NumGoroutine") = false) (hb : fn.body = some code) (hn : args.length ≤ fn.ntmps)
    (h : wqA (orc P G) T fn.ntmps code (resOk T fn.results.toList r) (initSt args)) : Holds P G f args r := by
  rw [wqA_eq] at h
  exact holds_of_wp hT hm hf hname hb hn h
end Go.Abs

/-
  Small words in which the typed functions are written, and the steps of their walks.
-/
namespace Go.Abs
open Go Go.RowKit

abbrev Str := List UInt8
abbrev I (n : Int) : CV := .v (.int .i64 n)
abbrev B (b : Bool) : CV := .v (.bool b)
abbrev S (s : Str) : CV := .v (.string ⟨⟨s⟩⟩)
def cInt (n : Int) : List CV := [I n]
def cInt_u8 (n : Int) : List CV := [.v (.int .u8 n)]
def cInt_i32 (n : Int) : List CV := [.v (.int .i32 n)]
def cBool (b : Bool) : List CV := [B b]
def cStr (s : Str) : List CV := [S s]
def cFnc (f : FuncId) : List CV := [.fn f []]
/-- An element by its index, as Go counts. -/
def ix {α : Type} (l : List α) (n : Int) : Option α := if n < 0 then none else l[n.toNat]?

section
variable {α β : Type} {G : Prop}
theorem obind {o : Option α} {f : α → Option β} {r : β} (h : Option.bind o f = some r) (k : ∀ x, o = some x → f x = some r → G) : G := by
  cases o with
  | none => exact nomatch h
  | some x => exact k x rfl h
theorem cpos {b : Bool} {x y : Option α} {r : α} (hb : b = true) (h : (bif b then x else y) = some r) : x = some r := by subst hb; exact h
theorem cneg {b : Bool} {x y : Option α} {r : α} (hb : b = false) (h : (bif b then x else y) = some r) : y = some r := by subst hb; exact h
theorem gpos {b : Bool} {x : Option α} {r : α} (h : (bif b then x else none) = some r) (k : b = true → x = some r → G) : G := by
  cases b with
  | true => exact k rfl h
  | false => exact nomatch h
theorem gneg {b : Bool} {x : Option α} {r : α} (h : (bif b then none else x) = some r) (k : b = false → x = some r → G) : G := by
  cases b with
  | false => exact k rfl h
  | true => exact nomatch h
theorem ix_nn {l : List α} {n : Int} {x : α} (h : ix l n = some x) : 0 ≤ n := by
  unfold ix at h
  split at h
  · exact nomatch h
  · omega
theorem ix_get {l : List α} {n : Int} {x : α} (h : ix l n = some x) : l[n.toNat]? = some x := by
  unfold ix at h
  split at h
  · exact nomatch h
  · exact h
theorem ix_map (f : α → β) {l : List α} {n : Int} {x : α} (h : ix l n = some x) : (l.map f)[n.toNat]? = some (f x) := by
  rw [List.getElem?_map, ix_get h]; rfl
theorem ix_str {s : Str} {n : Int} {b : UInt8} (h : ix s n = some b) : (ByteArray.mk ⟨s⟩)[n.toNat]? = some b := by
  have h1 := ix_get h
  have h2 := (List.getElem?_eq_some_iff.1 h1).1
  have h3 := (List.getElem?_eq_some_iff.1 h1).2
  have hs : n.toNat < (ByteArray.mk ⟨s⟩).size := h2
  rw [getElem?_pos (ByteArray.mk ⟨s⟩) n.toNat hs]
  exact congrArg some h3
theorem scat (a b : Str) : (ByteArray.mk ⟨a ++ b⟩) = ByteArray.mk ⟨a⟩ ++ ByteArray.mk ⟨b⟩ := by
  apply ByteArray.ext
  rw [ByteArray.data_append]
  simp
theorem len_map {f : α → List CV} {sz : Nat} {l : List α} (h : ∀ x, (f x).length = sz) : ∀ n ∈ l.map f, n.length = sz := by
  intro n hn
  obtain ⟨x, _, rfl⟩ := List.mem_map.1 hn
  exact h x
theorem len_all {sz : Nat} : ∀ {l : List (List β)}, l.all (fun d => Nat.beq d.length sz) = true → ∀ n ∈ l, n.length = sz := by
  intro l h n hn
  rw [List.all_eq_true] at h
  exact Nat.eq_of_beq_eq_true (h n hn)
theorem map_app (f : α → β) (a b : List α) : (a ++ b).map f = a.map f ++ b.map f := List.map_append
theorem app_le {f : α → β} {a b : List α} {k : Nat} (h : decide (a.length + b.length ≤ 4294967296) = true) : roomOk ((a.map f).length + (b.map f).length) k := .inl (by simpa using h)
theorem app_big {f : α → β} {a b : List α} {k : Nat} (h : decide (a.length + b.length ≤ 140737488355328 ∧ (a.length + b.length) * k ≤ 140737488355328) = true) : roomOk ((a.map f).length + (b.map f).length) k := .inr (by simpa using h)
theorem ix_lt {l : List α} {f : α → β} {n : Int} {x : α} (h : ix l n = some x) : n.toNat < (l.map f).length := by
  rw [List.length_map]; exact (List.getElem?_eq_some_iff.1 (ix_get h)).1
theorem ix_set {l : List α} {n : Int} {x y : α} (h : ix l n = some x) : ix (l.set n.toNat y) n = some y := by
  have h0 := ix_nn h
  have h1 := (List.getElem?_eq_some_iff.1 (ix_get h)).1
  unfold ix
  rw [if_neg (by omega), List.getElem?_set_self h1]
theorem set_map (f : α → β) (l : List α) (n : Nat) (y : α) : (l.set n y).map f = (l.map f).set n (f y) := List.map_set
theorem one_le {f : α → β} {a : List α} {b : Nat} (h : decide (a.length ≤ 4294967296) = true) : roomOk (a.map f).length b := .inl (by simpa using h)
theorem big_le {f : α → β} {a : List α} {b : Nat} (h : decide (a.length ≤ 140737488355328 ∧ a.length * b ≤ 140737488355328) = true) : roomOk (a.map f).length b := .inr (by simpa using h)
theorem ret_eq {p : α → Prop} {v r : α} (h : some v = some r) (hp : p v) : p r := Option.some.inj h ▸ hp
end
end Go.Abs
