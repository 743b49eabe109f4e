/-
  Soundness of the abstract weakest precondition: regions, code, functions.
-/
import Derived.Test.YtmcolhhmlpicaaaDoorAbsDraw2
import Derived.Laws.Cover3
namespace Go.Abs
open Go Go.RowKit

section
variable {P : Program} {G : World → Prop} {T : Tab} {Z0 : Base} {w0 : World} {S : Nat → Prop} {n : Nat} {Z Z' : Zone} {E : Nat → Value} {st : St} {a : Act} {w w' : World}

theorem run_eql_nilS (w : World) (t e : TypeId) (a : Option Addr) (l c : Nat) (h : P.underlying t = some (.slice e)) : (binOp .eql t (.slice a l c) (.slice none 0 0)).run P w = .ok (.bool a.isNone) w := by
  simp only [binOp]
  simp [run_equal_slice_nil w t e a l c h]
theorem nil_sound (hT : TOk P T) {o : Oper} {q : Bool} {t : TypeId} {x : Operand} {K : SV → Prop} {next : Act → World → Prop} {Q : Exit → Act → World → Prop} (hI : Inv G Z0 w0 S n Z E st a w) (hd : inRange n o.dst = true)
    (hq : nilCmp o.op = some (q, t, x)) (h : wpNil T st q t x K) (hn : ∀ r x, K r → Inv G Z0 w0 S n Z E ⟨put st.env o.dst r, st.obj⟩ (a.put o.dst x) w → next (a.put o.dst x) w) : o.wp P a w next Q := by
  unfold wpNil at h
  split at h
  · rename_i ds hs
    unfold slOf at hs
    split at hs
    · rename_i e _ _ _ _ _ hT'
      have hu := (hT _ _ hT').u
      simp only at hu
      -- the slice is nil only where it has no elements
      have hx : ∃ aa l k, a.eval x = .slice aa l k ∧ (aa = none → ds = []) := by
        have hx := look_rep hI x
        split at hs
        · rename_i s g he
          rw [he] at hx
          split at hs
          · rename_i g' el sz ds' foc ho
            cases hb : Nat.beq g g' with
            | false => rw [hb] at hs; cases hs
            | true =>
              rw [hb] at hs
              have hgg := Nat.eq_of_beq_eq_true hb
              subst hgg
              simp only [cond_true, Option.some.injEq] at hs
              subst hs
              have hobj := hI.obj s
              rw [ho] at hobj
              obtain ⟨xs, hszp, hown, _⟩ := hobj
              generalize a.eval x = y at hx
              cases hx with
              | rs _ _ _ hs hg hp' =>
                rw [hp' _ _ _ _ ho] at hown
                rcases hown.2 with ⟨hy, h0⟩ | ⟨b, cap, cur, hy, _⟩
                · exact ⟨_, _, _, hy, fun _ => List.eq_nil_of_length_eq_zero h0⟩
                · exact ⟨_, _, _, hy, fun h => by cases h⟩
          · cases hs
        · have hsl : ∃ sz, asSl (look st x) = some (sz, ds) := by
            cases hq : asSl (look st x) with
            | none => rw [hq] at hs; cases hs
            | some p => obtain ⟨sz, d⟩ := p; rw [hq] at hs; simp at hs; subst hs; exact ⟨sz, rfl⟩
          obtain ⟨sz, hsl⟩ := hsl
          have hr : Rep Z w (.sl sz ds) (a.eval x) := by
            generalize look st x = s at hx hsl
            unfold asSl at hsl
            split at hsl
            · simp only [Option.some.injEq, Prod.mk.injEq] at hsl
              obtain ⟨rfl, rfl⟩ := hsl
              cases hx with | c _ _ h => exact h
            · simp only [Option.some.injEq, Prod.mk.injEq] at hsl
              obtain ⟨rfl, rfl⟩ := hsl
              cases hx with | ap _ _ _ _ _ h _ _ => exact h
            · cases hsl
          generalize a.eval x = y at hr
          cases hr with
          | nil _ aa cap => exact ⟨_, _, _, rfl, fun _ => rfl⟩
          | sl _ _ b o cap f => exact ⟨_, _, _, rfl, fun h => by cases h⟩
      obtain ⟨aa, l, k, hx, hnil⟩ := hx
      have hb := h aa.isNone (fun h => hnil (Option.isNone_iff_eq_none.1 h))
      obtain ⟨dst, op, type, pos, after, guard⟩ := o
      simp only at hq hd hn
      unfold nilCmp at hq
      split at hq
      · rename_i t' x' z
        simp only [Option.some.injEq, Prod.mk.injEq] at hq
        obtain ⟨rfl, rfl, rfl⟩ := hq
        refine wp_value (x := .bool aa.isNone) ?_ (hn _ _ hb (hI.value hd ?_))
        · simp only [execOp, hx, Sem.run_bind]
          simp [Act.eval, eqGuard, run_eql_nilS (w := w) t' _ aa l k hu]
        · cases aa.isNone <;> first | exact .kt | exact .kf
      · rename_i t' x' z
        simp only [Option.some.injEq, Prod.mk.injEq] at hq
        obtain ⟨rfl, rfl, rfl⟩ := hq
        refine wp_value (x := .bool (!aa.isNone)) ?_ (hn _ _ hb (hI.value hd ?_))
        · simp only [execOp, hx, Sem.run_bind]
          simp [Act.eval, eqGuard, run_neq_slice_nil (w := w) t' _ aa l k hu]
        · cases aa.isNone <;> first | exact .kt | exact .kf
      · cases hq
    · cases hs
  · exact h.elim

theorem wpOps_sound (hT : TOk P T) (all : List Oper) {Q : Exit → Act → World → Prop} {K : St → Prop} (hK : ∀ Z' E' st' a' w', K st' → Inv G Z0 w0 S n Z' E' st' a' w' → Q .normal a' w') :
    ∀ (l : List Oper) (Z : Zone) (E : Nat → Value) (st : St) (a : Act) (w : World), Inv G Z0 w0 S n Z E st a w → wpOps (orc P G) T n all l st K → wpList P all.toArray Q l a w
  | [], Z, E, st, a, w, hI, h => hK _ _ _ _ _ h hI
  | o :: rest, Z, E, st, a, w, hI, h => by
    simp only [wpOps] at h
    replace h := bif_true h
    obtain ⟨hd, h⟩ := h
    have exec : ∀ (st : St), Inv G Z0 w0 S n Z E st a w → (wpO (orc P G) T (look st) st.obj o.dst o.op o.type fun r _ u => wpOps (orc P G) T n all rest ⟨put st.env o.dst r, upd st.obj u⟩ K) →
        Region.wanted o (yielded all.toArray a.tmps) = true → wpList P all.toArray Q (o :: rest) a w := by
      intro st hI h hw
      unfold wpList
      rw [if_pos hw]
      exact .inl (o_sound hT o Z0 w0 S n Z E st a w _ _ _ hI hd h fun r _ u Z' E' x w' hk hI' => wpOps_sound hT all hK rest Z' E' _ _ w' hI' hk)
    have pass : ∀ (st : St), Inv G Z0 w0 S n Z E st a w → wpOps (orc P G) T n all rest ⟨put st.env o.dst .un, st.obj⟩ K → Region.wanted o (yielded all.toArray a.tmps) = false → wpList P all.toArray Q (o :: rest) a w := by
      intro st hI h hw
      unfold wpList
      rw [if_neg (by simp [hw])]
      exact wpOps_sound hT all hK rest Z E _ _ w (hI.value (x := undef) hd .un) h
    cases hg : o.guard with
    | none =>
      rw [hg] at h
      simp only at h
      split at h
      · rename_i q t x hq
        unfold wpList
        rw [if_pos (by simp [Region.wanted, hg])]
        exact .inl (nil_sound hT hI hd hq h fun r x' hk hI' => wpOps_sound hT all hK rest Z E _ _ w hI' hk)
      · exact exec st hI h (by simp [Region.wanted, hg])
    | some jw =>
      obtain ⟨j, want⟩ := jw
      rw [hg] at h
      simp only at h
      split at h
      · exact h.elim
      · rename_i dj hdj
        have hdj' : (all.toArray[j]?).bind (·.dst) = some dj := by simpa using hdj
        have wnt : ∀ b, a.tmps.getD dj undef = .bool b → Region.wanted o (yielded all.toArray a.tmps) = (some b == some want) := fun b hb => by
          simp [Region.wanted, hg, yielded_of hdj' hb]
        have henv := hI.env dj
        split at h
        · rename_i he
          rw [he] at henv
          have hv : a.tmps.getD dj undef = .bool true := by generalize a.tmps.getD dj undef = y at henv; cases henv; rfl
          cases want with
          | true => exact exec st hI h (by rw [wnt _ hv]; rfl)
          | false => exact pass st hI h (by rw [wnt _ hv]; rfl)
        · rename_i he
          rw [he] at henv
          have hv : a.tmps.getD dj undef = .bool false := by generalize a.tmps.getD dj undef = y at henv; cases henv; rfl
          cases want with
          | true => exact pass st hI h (by rw [wnt _ hv]; rfl)
          | false => exact exec st hI h (by rw [wnt _ hv]; rfl)
        · rename_i b he
          rw [he] at henv
          have hv : a.tmps.getD dj undef = .bool b := rep_cv henv
          cases b with
          | true =>
            have h1 := h.1 rfl
            have hI' := hI.know (d := dj) (r := .kt) (by rw [hv]; exact .kt)
            cases want with
            | true => exact exec _ hI' h1 (by rw [wnt _ hv]; rfl)
            | false => exact pass _ hI' h1 (by rw [wnt _ hv]; rfl)
          | false =>
            have h1 := h.2 rfl
            have hI' := hI.know (d := dj) (r := .kf) (by rw [hv]; exact .kf)
            cases want with
            | true => exact pass _ hI' h1 (by rw [wnt _ hv]; rfl)
            | false => exact exec _ hI' h1 (by rw [wnt _ hv]; rfl)
        · rename_i he
          rw [he] at henv
          have hv : a.tmps.getD dj undef = undef := by generalize a.tmps.getD dj undef = y at henv; cases henv; rfl
          exact pass st hI h (by simp [Region.wanted, hg, yielded_un hdj' hv])
        · exact h.elim

theorem live1_rep {obj obj' : Objs} {c : CV} {x : Value} (h : RepX1 Z w obj E c x) (hl : live1 obj c = true) : RepX1 Z w obj' E (normC1 c) x := by
  cases h with
  | cl h => have hn := h.notRs; cases c <;> first | exact .cl h | (simp [CV.isRs] at hn)
  | rs t g x hs hg h =>
    simp only [live1] at hl
    split at hl
    · rename_i g' el sz ds foc ho
      have := Nat.eq_of_beq_eq_true hl
      subst this
      exact .rs _ _ x hs (Nat.zero_le _) fun _ _ _ _ _ => h _ _ _ _ ho
    · cases hl
  | pr t g off x hs hg h =>
    have : live obj t g := by
      simp only [live1] at hl
      split at hl
      · rename_i g' cs ho; have := Nat.eq_of_beq_eq_true hl; subst this; exact ⟨cs, .inl ho⟩
      · rename_i g' cs ho; have := Nat.eq_of_beq_eq_true hl; subst this; exact ⟨cs, .inr (.inl ho)⟩
      · rename_i g' cs ho; have := Nat.eq_of_beq_eq_true hl; subst this; exact ⟨cs, .inr (.inr ho)⟩
      · cases hl
    exact .pr _ _ _ x hs (Nat.zero_le _) fun _ => h this
  | mr t g x hs hg h =>
    simp only [live1] at hl
    split at hl
    · rename_i g' es ho
      have := Nat.eq_of_beq_eq_true hl
      subst this
      exact .mr _ _ x hs (Nat.zero_le _) fun _ _ => h _ ho
    · cases hl
theorem normCV_rep {obj obj' : Objs} {c : CV} {x : Value} (h : RepX Z w obj E c x) (hl : liveF obj c = true) : RepX Z w obj' E (normCV c) x := by
  cases h with
  | one h =>
    by_cases hf : ∃ f caps, c = .fr f caps
    · obtain ⟨f, caps, rfl⟩ := hf; cases h with | cl h => cases h
    · have e1 : liveF obj c = live1 obj c := by cases c <;> first | rfl | exact absurd ⟨_, _, rfl⟩ hf
      have e2 : normCV c = normC1 c := by cases c <;> first | rfl | exact absurd ⟨_, _, rfl⟩ hf
      rw [e1] at hl
      rw [e2]
      exact .one (live1_rep h hl)
  | fr f caps vs hlen h =>
    refine .fr f _ vs (by simpa using hlen) fun i c x h1 h2 => ?_
    rw [List.getElem?_map] at h1
    cases hk : caps[i]? with
    | none => rw [hk] at h1; simp at h1
    | some c0 => rw [hk] at h1; simp at h1; subst h1; exact live1_rep (h i c0 x hk h2) (all_get (show caps.all (live1 obj) = true from hl) hk)
theorem normCV_atom (c : CV) : (normCV c).atom = c.atom := by cases c <;> rfl

theorem normO_live {obj : Objs} {o : AObj} {cs : List CV} (h : normO obj o = .var cs ∨ normO obj o = .ro cs ∨ normO obj o = .varx cs) : ∃ cs0, o = .var cs0 ∨ o = .ro cs0 ∨ o = .varx cs0 := by
  unfold normO at h
  split at h
  · exact ⟨_, .inr (.inr rfl)⟩
  · cases hl : liveC obj _ with
    | true => rw [hl] at h; simp at h
    | false => rw [hl] at h; simp at h
  · rcases h with h | h | h
    · exact ⟨_, .inl h⟩
    · exact ⟨_, .inr (.inl h)⟩
    · exact ⟨_, .inr (.inr h)⟩
theorem normO_arr {obj : Objs} {o : AObj} {el sz : Nat} {ds : List (List CV)} {foc : Option (Nat × List CV)} (h : normO obj o = .arr el sz ds foc) : ∃ foc0, o = .arr el sz ds foc0 := by
  unfold normO at h
  split at h
  · cases hl : liveC obj _ with
    | true => rw [hl] at h; simp at h
    | false => rw [hl] at h; simp at h
  · cases hl : liveC obj _ with
    | true => rw [hl] at h; simp at h; obtain ⟨rfl, rfl, rfl, _⟩ := h; exact ⟨_, rfl⟩
    | false => rw [hl] at h; simp at h
  · exact ⟨_, h⟩
theorem normO_tok {obj : Objs} {o : AObj} {el sz : Nat} (h : normO obj o = .tok el sz) : o = .tok el sz := by
  unfold normO at h
  split at h
  · cases hl : liveC obj _ with
    | true => rw [hl] at h; simp at h
    | false => rw [hl] at h; simp at h
  · cases hl : liveC obj _ with
    | true => rw [hl] at h; simp at h
    | false => rw [hl] at h; simp at h
  · exact h
theorem normO_map {obj : Objs} {o : AObj} {es : List (CV × CV)} (h : normO obj o = .map es) : o = .map es := by
  unfold normO at h
  split at h
  · cases hl : liveC obj _ with
    | true => rw [hl] at h; simp at h
    | false => rw [hl] at h; simp at h
  · cases hl : liveC obj _ with
    | true => rw [hl] at h; simp at h
    | false => rw [hl] at h; simp at h
  · exact h
theorem Inv.weak (hI : Inv G Z0 w0 S n Z E st a w) {st' : St} (hw : Weak st st') : Inv G Z0 w0 S n Z E st' a w := by
  obtain ⟨h1, h2x⟩ := hw
  have h2 : ∀ s, st'.obj s = (0, .none) ∨ st'.obj s = (0, normO st.obj (st.obj s).2) := fun s => by
    rcases h2x s with h | h
    · exact .inl h
    · unfold normOx at h
      cases hb : (Nat.blt s PIN || Nat.beq (st.obj s).1 0) with
      | true => rw [hb] at h; exact .inr h
      | false => rw [hb] at h; exact .inl h
  have hpin : ∀ s o, Nat.blt s PIN = false → st'.obj s = (0, o) → o ≠ .none → st.obj s = (0, (st.obj s).2) ∧ normO st.obj (st.obj s).2 = o := fun s o hs he hne => by
    rcases h2x s with h | h
    · rw [h] at he; simp at he; exact absurd he.symm hne
    · unfold normOx at h
      rw [hs, Bool.false_or] at h
      cases hb : Nat.beq (st.obj s).1 0 with
      | true =>
        rw [hb] at h
        rw [h] at he
        exact ⟨Prod.ext (Nat.eq_of_beq_eq_true hb) rfl, by simpa using he⟩
      | false => rw [hb] at h; rw [h] at he; simp at he; exact absurd he.symm hne
  have hpk : PinKeep Z0.obj Z0.E st'.obj E := by
    constructor
    · intro t ht hl
      refine hI.pin.var t ht ?_
      obtain ⟨cs, hl⟩ := hl
      have : ∃ o, st'.obj t = (0, o) ∧ o ≠ .none ∧ (o = .var cs ∨ o = .ro cs ∨ o = .varx cs) := by
        rcases hl with h | h | h
        · exact ⟨_, h, by simp, .inl rfl⟩
        · exact ⟨_, h, by simp, .inr (.inl rfl)⟩
        · exact ⟨_, h, by simp, .inr (.inr rfl)⟩
      obtain ⟨o, q1, q2, q3⟩ := this
      obtain ⟨q4, q5⟩ := hpin t o ht q1 q2
      rw [← q5] at q3
      obtain ⟨cs0, q6⟩ := normO_live q3
      refine ⟨cs0, ?_⟩
      rcases q6 with h | h | h
      · exact .inl (q4.trans (by rw [h]))
      · exact .inr (.inl (q4.trans (by rw [h])))
      · exact .inr (.inr (q4.trans (by rw [h])))
    · intro t el s ht hl
      obtain ⟨q4, q5⟩ := hpin t _ ht hl (by simp)
      exact hI.pin.tok t el s ht (q4.trans (by rw [normO_tok q5]))
    · intro t el sz ds foc ht hl
      obtain ⟨q4, q5⟩ := hpin t _ ht hl (by simp)
      obtain ⟨f0, q6⟩ := normO_arr q5
      exact hI.pin.arr t el sz ds f0 ht (q4.trans (by rw [q6]))
    · intro t es ht hl
      obtain ⟨q4, q5⟩ := hpin t _ ht hl (by simp)
      exact hI.pin.map t es ht (q4.trans (by rw [normO_map q5]))
  have hblkN : ∀ (o : AObj) (e : Value) (b : Nat), (normO st.obj o).blk e = some b → o.blk e = some b := by
    intro o e b h
    unfold normO at h
    split at h
    · rename_i cs
      cases hl : liveC st.obj cs with
      | true => rw [hl] at h; cases e <;> first | exact h | (rename_i aa _ _; cases aa <;> exact h) | (rename_i aa; cases aa <;> exact h)
      | false => rw [hl] at h; simp [AObj.blk] at h
    · rename_i el sz ds m cs
      cases hl : liveC st.obj cs with
      | true => rw [hl] at h; cases e <;> first | exact h | (rename_i aa _ _; cases aa <;> exact h) | (rename_i aa; cases aa <;> exact h)
      | false => rw [hl] at h; simp [AObj.blk] at h
    · exact h
  have hblk : ∀ s b, (st'.obj s).2.blk (E s) = some b → (st.obj s).2.blk (E s) = some b := fun s b hb => by
    rcases h2 s with h | h
    · rw [h] at hb; simp [AObj.blk] at hb
    · rw [h] at hb; exact hblkN _ _ _ hb
  have hnorm : ∀ (s : SV) (x : Value), RepS Z w st.obj E s x → RepS Z w st'.obj E (normS1 st.obj s) x := by
    intro s x henv
    cases henv with
    | any x => exact .any x
    | un => exact .un
    | kt => exact .c _ _ (.v _)
    | kf => exact .c _ _ (.v _)
    | c c x h => exact .c c x h
    | fnr f caps vs => exact .any _
    | agx cs vs => exact .any _
    | ap t' g sz es x hrep hg ht =>
      simp only [normS1]
      split
      · rename_i g' el z ho
        cases hb : Nat.beq g g' with
        | true =>
          have := Nat.eq_of_beq_eq_true hb
          subst this
          exact .ap _ _ _ _ _ hrep (Nat.zero_le _) fun el' z' _ => ht _ _ ho
        | false => exact .c _ _ hrep
      · exact .c _ _ hrep
    | pm t' g off x hs hg hl =>
      simp only [normS1]
      split
      · rename_i g' cs ho
        cases hb : Nat.beq g g' with
        | true =>
          have := Nat.eq_of_beq_eq_true hb
          subst this
          exact .pm _ _ _ _ hs (Nat.zero_le _) fun _ => hl ⟨cs, .inl ho⟩
        | false => exact .any _
      · rename_i g' cs ho
        cases hb : Nat.beq g g' with
        | true =>
          have := Nat.eq_of_beq_eq_true hb
          subst this
          exact .pm _ _ _ _ hs (Nat.zero_le _) fun _ => hl ⟨cs, .inr (.inl ho)⟩
        | false => exact .any _
      · rename_i g' cs ho
        cases hb : Nat.beq g g' with
        | true =>
          have := Nat.eq_of_beq_eq_true hb
          subst this
          exact .pm _ _ _ _ hs (Nat.zero_le _) fun _ => hl ⟨cs, .inr (.inr ho)⟩
        | false => exact .any _
      · exact .any _
    | rs t' g x hs hg hE =>
      simp only [normS1]
      split
      · rename_i g' el sz ds foc ho
        cases hb : Nat.beq g g' with
        | true =>
          have := Nat.eq_of_beq_eq_true hb
          subst this
          exact .rs _ _ _ hs (Nat.zero_le _) fun _ _ _ _ _ => hE _ _ _ _ ho
        | false => exact .any _
      · exact .any _
    | mr t' g x hs hg hE =>
      simp only [normS1]
      split
      · rename_i g' es ho
        cases hb : Nat.beq g g' with
        | true =>
          have := Nat.eq_of_beq_eq_true hb
          subst this
          exact .mr _ _ _ hs (Nat.zero_le _) fun _ _ => hE _ ho
        | false => exact .any _
      · exact .any _
    | pe t' g m off x hg hE =>
      simp only [normS1]
      split
      · rename_i g' el sz ds foc ho
        cases hb : Nat.beq g g' with
        | true =>
          have := Nat.eq_of_beq_eq_true hb
          subst this
          refine .pe _ _ _ _ _ (Nat.zero_le _) fun el' sz' ds' foc' he => ?_
          have hsz : sz' = sz := by
            rcases h2 t' with h | h
            · rw [h] at he; simp at he
            · rw [h, ho] at he
              simp only [Prod.mk.injEq, true_and] at he
              cases foc with
              | none => simp only [normO, AObj.arr.injEq] at he; exact he.2.1.symm
              | some p =>
                obtain ⟨k, cs⟩ := p
                simp only [normO] at he
                cases hlv : liveC st.obj cs with
                | true => rw [hlv] at he; simp only [cond_true, AObj.arr.injEq] at he; exact he.2.1.symm
                | false => rw [hlv] at he; simp at he
          subst hsz
          exact hE _ _ _ _ ho
        | false => exact .any _
      · exact .any _
  refine { hI with pin := hpk, env := fun t => ?_, obj := fun t => ?_, own := fun t b hb => hI.own t b (hblk t b hb), apart := fun t t' b hne ha hb => hI.apart t t' b hne (hblk t b ha) (hblk t' b hb) }
  · rcases h1 t with h | h
    · rw [h]; exact .any _
    · rw [h]
      have henv := hI.env t
      generalize a.tmps.getD t undef = x at henv
      generalize st.env t = s at henv
      by_cases hf : ∃ f caps, s = .fnr f caps
      · obtain ⟨f, caps, rfl⟩ := hf
        cases henv with
        | fnr _ _ vs hl hh =>
          refine .fnr f _ vs (by simpa using hl) fun i c y q1 q2 => ?_
          rw [List.getElem?_map] at q1
          cases hk : caps[i]? with
          | none => rw [hk] at q1; simp at q1
          | some c0 => rw [hk] at q1; simp at q1; subst q1; exact hnorm c0 y (hh i c0 y hk q2)
      · have e2 : normSV st.obj s = normS1 st.obj s := by cases s <;> first | rfl | exact absurd ⟨_, _, rfl⟩ hf
        rw [e2]
        exact hnorm s x henv
  · have hot := hI.obj t
    rcases h2 t with h | h
    · rw [h]; trivial
    · rw [h]
      show ObjOk Z w st'.obj E (E t) (normO st.obj (st.obj t).2)
      cases ho : (st.obj t).2 with
      | none => trivial
      | spent => trivial
      | var cs => rw [ho] at hot; exact hot
      | ro cs => rw [ho] at hot; exact hot
      | tok el sz => rw [ho] at hot; exact hot
      | map es => rw [ho] at hot; exact hot
      | varx cs =>
        rw [ho] at hot
        simp only [normO]
        cases hl : liveC st.obj cs with
        | false => trivial
        | true =>
          obtain ⟨b, el, arr, he, hh, hs, hc, hz⟩ := hot
          refine ⟨b, el, arr, he, hh, by simpa using hs, fun j c hj => ?_, hz⟩
          rw [List.getElem?_map] at hj
          cases hcj : cs[j]? with
          | none => rw [hcj] at hj; simp at hj
          | some c0 =>
            rw [hcj] at hj
            simp at hj
            subst hj
            obtain ⟨q1, x, q2, q3⟩ := hc j c0 hcj
            exact ⟨by rw [normCV_atom]; exact q1, x, q2, normCV_rep q3 (all_get hl hcj)⟩
      | arr el sz ds foc =>
        rw [ho] at hot
        cases foc with
        | none =>
          simp only [normO]
          obtain ⟨xs, q1, q2, q3, q4, q5, q6⟩ := hot
          refine ⟨xs, q1, q2, q3, q4, fun i d hi hd j c hj => ?_, q6⟩
          obtain ⟨r1, u, r2, r3⟩ := q5 i d hi hd j c hj
          exact ⟨r1, u, r2, .cl (r3.closed (noRs_get (q3.2 i d hd (fun _ _ h => nomatch h)) hj))⟩
        | some p =>
          obtain ⟨m, cs⟩ := p
          simp only [normO]
          cases hl : liveC st.obj cs with
          | false => trivial
          | true =>
            obtain ⟨xs, q1, q2, q3, q4, q5, q6⟩ := hot
            have hcx : ∀ k, cellX ds (some (m, cs.map normCV)) k = if k = m then some (cs.map normCV) else ds[k]? := fun k => rfl
            have hcx0 : ∀ k, cellX ds (some (m, cs)) k = if k = m then some cs else ds[k]? := fun k => rfl
            refine ⟨xs, q1, q2, ⟨fun m' d' he => ?_, fun i d hd hne => ?_⟩, fun i d hi hd => ?_, fun i d hi hd j c hj => ?_, q6⟩
            · simp only [Option.some.injEq, Prod.mk.injEq] at he
              rw [← he.1]
              exact q3.1 m cs rfl
            · exact q3.2 i d hd (fun m' d'' he => by
                simp only [Option.some.injEq, Prod.mk.injEq] at he
                rw [← he.1]
                exact hne m _ rfl)
            · rw [hcx] at hd
              by_cases hk : i = m
              · rw [if_pos hk] at hd
                injection hd with hd
                subst hd
                rw [List.length_map]
                exact q4 i cs hi (by rw [hcx0, if_pos hk])
              · rw [if_neg hk] at hd
                exact q4 i d hi (by rw [hcx0, if_neg hk]; exact hd)
            · rw [hcx] at hd
              by_cases hk : i = m
              · rw [if_pos hk] at hd
                injection hd with hd
                subst hd
                rw [List.getElem?_map] at hj
                cases hcj : cs[j]? with
                | none => rw [hcj] at hj; simp at hj
                | some c0 =>
                  rw [hcj] at hj
                  simp at hj
                  subst hj
                  obtain ⟨r1, u, r2, r3⟩ := q5 i cs hi (by rw [hcx0, if_pos hk]) j c0 hcj
                  exact ⟨by rw [normCV_atom]; exact r1, u, r2, normCV_rep r3 (all_get hl hcj)⟩
              · rw [if_neg hk] at hd
                obtain ⟨r1, u, r2, r3⟩ := q5 i d hi (by rw [hcx0, if_neg hk]; exact hd) j c hj
                exact ⟨r1, u, r2, .cl (r3.closed (noRs_get (q3.2 i d hd (fun m' d'' he => by
                  simp only [Option.some.injEq, Prod.mk.injEq] at he
                  rw [← he.1]; exact hk)) hj))⟩

theorem wpA_sound (hT : TOk P T) (hm : P.follows .mixedOrders = true) (code : Code) : ∀ {Q : Exit → Act → World → Prop} {K : Exit → St → Prop} (_ : ∀ e Z' E' st' a' w', K e st' → Inv G Z0 w0 S n Z' E' st' a' w' → Q e a' w')
    (Z : Zone) (E : Nat → Value) (st : St) (a : Act) (w : World), Inv G Z0 w0 S n Z E st a w → wpA (orc P G) T n code K st → code.wp P Q a w := by
  induction code with
  | skip => intro Q K hK Z E st a w hI h; exact wp_skip (hK _ _ _ _ _ _ h hI)
  | region id ops draw =>
    intro Q K hK Z E st a w hI h
    simp only [wpA] at h
    cases draw with
    | true => exact wpDraw_sound hT hm (fun Z' E' st' a' w' hk hI' => hK _ _ _ _ _ _ hk hI') hI h
    | false =>
      simp only [cond_false] at h
      have := wpOps_sound (Q := Q) hT ops.toList (fun Z' E' st' a' w' hk hI' => hK _ _ _ _ _ _ hk hI') ops.toList Z E st a w hI h
      refine wp_region_list ?_
      simpa using this
  | seq x y ihx ihy =>
    intro Q K hK Z E st a w hI h
    simp only [wpA] at h
    cases hj : isJoin x with
    | true =>
      rw [hj] at h
      simp only [cond_true] at h
      refine wp_seq (ihx (fun e Z' E' st' a' w' hk hI' => ?_) Z E st a w hI h)
      cases e with
      | normal =>
        rcases hk with hk | ⟨st0, hw, hk⟩
        · exact ihy hK _ _ _ _ _ hI' hk
        · exact ihy hK _ _ _ _ _ (hI'.weak hw) hk
      | exit id => exact hK _ _ _ _ _ _ hk hI'
      | goto l => exact hK _ _ _ _ _ _ hk hI'
      | ret => exact hK _ _ _ _ _ _ hk hI'
      | panic ch => exact hK _ _ _ _ _ _ hk hI'
      | outgrown => exact hK _ _ _ _ _ _ hk hI'
    | false =>
      rw [hj] at h
      simp only [cond_false] at h
      refine wp_seq (ihx (fun e Z' E' st' a' w' hk hI' => ?_) Z E st a w hI h)
      cases e with
      | normal => exact ihy hK _ _ _ _ _ hI' hk
      | exit id => exact hK _ _ _ _ _ _ hk hI'
      | goto l => exact hK _ _ _ _ _ _ hk hI'
      | ret => exact hK _ _ _ _ _ _ hk hI'
      | panic ch => exact hK _ _ _ _ _ _ hk hI'
      | outgrown => exact hK _ _ _ _ _ _ hk hI'
  | cond c x y ihx ihy =>
    intro Q K hK Z E st a w hI h
    simp only [wpA] at h
    have hc := look_rep hI c
    split at h
    · rename_i he
      rw [he] at hc
      have hv : a.eval c = .bool true := by generalize a.eval c = y at hc; cases hc; rfl
      exact wp_cond_true hv (ihx hK _ _ _ _ _ hI h)
    · rename_i he
      rw [he] at hc
      have hv : a.eval c = .bool false := by generalize a.eval c = y at hc; cases hc; rfl
      exact wp_cond_false hv (ihy hK _ _ _ _ _ hI h)
    · rename_i q he
      rw [he] at hc
      have hv : a.eval c = .bool q := rep_cv hc
      cases q with
      | true => exact wp_cond_true hv (ihx hK _ _ _ _ _ hI (h.1 rfl))
      | false => exact wp_cond_false hv (ihy hK _ _ _ _ _ hI (h.2 rfl))
    · exact h.elim
  | block id body ih =>
    intro Q K hK Z E st a w hI h
    simp only [wpA] at h
    refine wp_block (ih (fun e Z' E' st' a' w' hk hI' => ?_) Z E st a w hI h)
    cases e with
    | exit j =>
      simp only [Exit.inBlock]
      cases hb : Nat.beq j id with
      | true =>
        simp only [hb, cond_true] at hk
        rw [if_pos (Nat.eq_of_beq_eq_true hb)]
        exact hK _ _ _ _ _ _ hk hI'
      | false =>
        simp only [hb, cond_false] at hk
        rw [if_neg (fun e => by subst e; simp at hb)]
        exact hK _ _ _ _ _ _ hk hI'
    | normal => exact hK _ _ _ _ _ _ hk hI'
    | goto l => exact hK _ _ _ _ _ _ hk hI'
    | ret => exact hK _ _ _ _ _ _ hk hI'
    | panic ch => exact hK _ _ _ _ _ _ hk hI'
    | outgrown => exact hK _ _ _ _ _ _ hk hI'
  | loop body ih =>
    intro Q K hK Z E st a w hI h
    simp only [wpA] at h
    obtain ⟨I, ⟨k, st0, hw, hi⟩, hstep⟩ := h
    have key : ∀ m k (Z : Zone) (E : Nat → Value) st a w, k < m → I k st → Inv G Z0 w0 S n Z E st a w → Code.rounds P body Q m a w := by
      intro m
      induction m with
      | zero => intro k Z E st a w hk; omega
      | succ m ihm =>
        intro k Z E st a w hk hi hI
        rw [rounds_succ]
        refine ih (fun e Z' E' st' a' w' hk' hI' => ?_) Z E st a w hI (hstep k st hi)
        cases e with
        | normal =>
          obtain ⟨k', st3, hlt, hw3, hi3⟩ := hk'
          exact ihm k' Z' E' st3 a' w' (by omega) hi3 (hI'.weak hw3)
        | exit j => exact hK _ _ _ _ _ _ hk' hI'
        | goto l => exact hK _ _ _ _ _ _ hk' hI'
        | ret => exact hK _ _ _ _ _ _ hk' hI'
        | panic ch => exact hK _ _ _ _ _ _ hk' hI'
        | outgrown => exact hK _ _ _ _ _ _ hk' hI'
    exact wp_loop_rounds (k + 1) (key (k + 1) k Z E st0 a w (by omega) hi (hI.weak hw))
  | exit id => intro Q K hK Z E st a w hI h; exact wp_exit (hK _ _ _ _ _ _ h hI)
  | ret => intro Q K hK Z E st a w hI h; exact wp_ret (hK _ _ _ _ _ _ h hI)
  | rangeFunc f ps x y => intro Q K hK Z E st a w hI h; exact h.elim
  | scope body => intro Q K hK Z E st a w hI h; exact h.elim
  | label l => intro Q K hK Z E st a w hI h; exact h.elim
  | goto l => intro Q K hK Z E st a w hI h; exact h.elim
  | refuse why => intro Q K hK Z E st a w hI h; exact h.elim

theorem resC_run (hT : TOk P T) (hI : Inv G Z0 w0 S n Z E st a w) {rv : ResultVar} {c : CV} (h : resC T st rv = some c) :
    ∃ x, (match rv with | .tmp t => pure (a.tmps.getD t undef) | .cell y t => do loadVar t (← asAddr (a.tmps.getD y undef)) : Sem Value).run P w = .ok x w ∧ Rep Z w c x := by
  cases rv with
  | tmp t => exact ⟨_, by simp, asC_rep (hI.env t) h⟩
  | cell y t =>
    simp only [resC] at h
    split at h
    · rename_i i s g off hti he
      split at h
      · rename_i g' cs ho
        cases hb : Nat.beq g g' with
        | false => rw [hb] at h; simp at h
        | true =>
          rw [hb] at h
          simp only [cond_true] at h
          have := Nat.eq_of_beq_eq_true hb
          subst this
          have henv := hI.env y
          rw [he] at henv
          obtain ⟨b, _, hx, f, hc⟩ := var_cells hI (.inl ho) henv
          obtain ⟨v, hv, hr⟩ := run_part (o := 0) (hT _ _ hti) (fun j c hj => by rw [Nat.zero_add]; exact hc j c hj) h
          refine ⟨v, ?_, hr⟩
          simp only [Instr.loadAt, Instr.sureAddr, Sem.run_bind, Sem.run_pure, Result.andThen_ok, Nat.zero_add] at hv
          simp only [hx, asAddr, Sem.run_bind, Sem.run_pure, Result.andThen_ok, hv]
      · simp at h
    · simp at h

theorem resAll_run (hT : TOk P T) (hI : Inv G Z0 w0 S n Z E st a w) : ∀ (rs : List ResultVar) (cs : List CV), resAll T st rs = some cs →
    ∃ vs, (rs.mapM fun rv => (match rv with | .tmp t => pure (a.tmps.getD t undef) | .cell y t => do loadVar t (← asAddr (a.tmps.getD y undef)) : Sem Value)).run P w = .ok vs w ∧ RepL Z w cs vs
  | [], cs, h => by simp [resAll] at h; subst h; exact ⟨[], by simp, RepL.nil _ _⟩
  | rv :: rs, cs, h => by
    simp only [resAll] at h
    split at h
    · rename_i c cs' h1 h2
      simp at h
      subst h
      obtain ⟨x, hx, hr⟩ := resC_run hT hI h1
      obtain ⟨vs, hvs, hrs⟩ := resAll_run hT hI rs cs' h2
      refine ⟨x :: vs, ?_, RepL.cons hr hrs⟩
      simp only [List.mapM_cons, Sem.run_bind, hx, Result.andThen_ok, hvs, Sem.run_pure]
    · simp at h

theorem results_run (hT : TOk P T) (hI : Inv G Z0 w0 S n Z E st a w) {fn : Func} {r : CV} (h : resVal T st fn.results.toList = some r) : ∃ x, (results fn a.tmps).run P w = .ok x w ∧ Rep Z w r x := by
  unfold results
  rw [Array.mapM_eq_mapM_toList]
  unfold resVal at h
  split at h
  · rename_i rv hrs
    obtain ⟨x, hx, hr⟩ := resC_run hT hI h
    refine ⟨x, ?_, hr⟩
    simp only [hrs, List.mapM_cons, List.mapM_nil, Sem.run_bind, Sem.run_map, Sem.run_pure, Result.andThen_ok]
    exact congrArg (fun r : Result Value => ((r.andThen fun a w' => Result.ok [a] w').andThen fun a w' => Result.ok a.toArray w').andThen fun a w' => Result.ok (if h : a.size = 1 then a[0] else Value.tuple a) w') hx
  · rename_i hne
    cases hra : resAll T st fn.results.toList with
    | none => rw [hra] at h; simp at h
    | some cs =>
      rw [hra] at h
      simp at h
      subst h
      obtain ⟨vs, hvs, hrs⟩ := resAll_run hT hI _ _ hra
      have hlen : ∀ (rs : List ResultVar) (cs : List CV), resAll T st rs = some cs → cs.length = rs.length := by
        intro rs
        induction rs with
        | nil => intro cs h; simp [resAll] at h; subst h; rfl
        | cons rv rs ih =>
          intro cs h
          simp only [resAll] at h
          split at h
          · rename_i c cs' _ h2; simp at h; subst h; simp [ih cs' h2]
          · simp at h
      have h1 : vs.length ≠ 1 := fun e => by
        have := hlen _ _ hra
        rw [hrs.1, e] at this
        match hl : fn.results.toList, this with
        | [x], _ => exact hne x hl
      refine ⟨.tuple vs.toArray, ?_, .tup cs vs hrs.1 hrs.2⟩
      simp only [Sem.run_bind, Sem.run_map, Sem.run_pure]
      refine (congrArg (fun r : Result (List Value) => (r.andThen fun a w' => Result.ok a.toArray w').andThen fun a w' => Result.ok (if h : a.size = 1 then a[0] else Value.tuple a) w') hvs).trans ?_
      simp only [Result.andThen_ok]
      rw [dif_neg (by simpa using h1)]

theorem init_rep : ∀ (args : List CV) (vs : List Value) (_ : RepL Z w args vs) (t : Nat), RepS Z w (fun _ => (0, .none)) E (initEnv args t) (vs.getD t undef)
  | [], vs, _, t => .any _
  | c :: args, [], h, t => by have := h.1; simp at this
  | c :: args, x :: vs, h, 0 => .c _ _ h.head
  | c :: args, x :: vs, h, t + 1 => by simpa [initEnv] using init_rep args vs h.tail t
end
end Go.Abs
