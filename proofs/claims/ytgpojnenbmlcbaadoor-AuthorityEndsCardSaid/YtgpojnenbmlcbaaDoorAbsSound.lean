/-
  Soundness of the abstract weakest precondition: regions, code, functions.
-/
import Derived.Test.YtgpojnenbmlcbaaDoorAbsDraw2
namespace Go.Abs
open Go Go.RowKit

section
variable {P : Program} {G : World → Prop} {T : Tab} {Z0 : Zone} {w0 : World} {n : Nat} {Z Z' : Zone} {E : Nat → Value} {st : St} {a : Act} {w w' : World}

theorem wpOps_sound (hT : TOk P T) (all : List Oper) {Q : Exit → Act → World → Prop} {K : St → Prop} (hK : ∀ Z' E' st' a' w', K st' → Inv G Z0 w0 n Z' E' st' a' w' → Q .normal a' w') :
    ∀ (l : List Oper) (Z : Zone) (E : Nat → Value) (st : St) (a : Act) (w : World), Inv G Z0 w0 n Z E st a w → wpOps (Holds P G) T n all l st K → wpList P all.toArray Q l a w
  | [], Z, E, st, a, w, hI, h => hK _ _ _ _ _ h hI
  | o :: rest, Z, E, st, a, w, hI, h => by
    simp only [wpOps] at h
    replace h := bif_true h
    obtain ⟨hd, h⟩ := h
    have exec : ∀ (st : St), Inv G Z0 w0 n Z E st a w → (wpO (Holds P G) T (look st) st.obj o.dst o.op o.type fun r _ u => wpOps (Holds P G) T n all rest ⟨put st.env o.dst r, upd st.obj u⟩ K) →
        Region.wanted o (yielded all.toArray a.tmps) = true → wpList P all.toArray Q (o :: rest) a w := by
      intro st hI h hw
      unfold wpList
      rw [if_pos hw]
      exact .inl (o_sound hT o Z0 w0 n Z E st a w _ _ _ hI hd h fun r _ u Z' E' x w' hk hI' => wpOps_sound hT all hK rest Z' E' _ _ w' hI' hk)
    have pass : ∀ (st : St), Inv G Z0 w0 n Z E st a w → wpOps (Holds P G) T n all rest ⟨put st.env o.dst .un, st.obj⟩ K → Region.wanted o (yielded all.toArray a.tmps) = false → wpList P all.toArray Q (o :: rest) a w := by
      intro st hI h hw
      unfold wpList
      rw [if_neg (by simp [hw])]
      exact wpOps_sound hT all hK rest Z E _ _ w (hI.value (x := undef) hd .un) h
    cases hg : o.guard with
    | none =>
      rw [hg] at h
      exact exec st hI h (by simp [Region.wanted, hg])
    | some jw =>
      obtain ⟨j, want⟩ := jw
      rw [hg] at h
      simp only at h
      split at h
      · exact h.elim
      · rename_i dj hdj
        have hdj' : (all.toArray[j]?).bind (·.dst) = some dj := by simpa using hdj
        have wnt : ∀ b, a.tmps.getD dj undef = .bool b → Region.wanted o (yielded all.toArray a.tmps) = (some b == some want) := fun b hb => by
          simp [Region.wanted, hg, yielded_of hdj' hb]
        have henv := hI.env dj
        split at h
        · rename_i he
          rw [he] at henv
          have hv : a.tmps.getD dj undef = .bool true := by generalize a.tmps.getD dj undef = y at henv; cases henv; rfl
          cases want with
          | true => exact exec st hI h (by rw [wnt _ hv]; rfl)
          | false => exact pass st hI h (by rw [wnt _ hv]; rfl)
        · rename_i he
          rw [he] at henv
          have hv : a.tmps.getD dj undef = .bool false := by generalize a.tmps.getD dj undef = y at henv; cases henv; rfl
          cases want with
          | true => exact pass st hI h (by rw [wnt _ hv]; rfl)
          | false => exact exec st hI h (by rw [wnt _ hv]; rfl)
        · rename_i b he
          rw [he] at henv
          have hv : a.tmps.getD dj undef = .bool b := rep_cv henv
          cases b with
          | true =>
            have h1 := h.1 rfl
            have hI' := hI.know (d := dj) (r := .kt) (by rw [hv]; exact .kt)
            cases want with
            | true => exact exec _ hI' h1 (by rw [wnt _ hv]; rfl)
            | false => exact pass _ hI' h1 (by rw [wnt _ hv]; rfl)
          | false =>
            have h1 := h.2 rfl
            have hI' := hI.know (d := dj) (r := .kf) (by rw [hv]; exact .kf)
            cases want with
            | true => exact pass _ hI' h1 (by rw [wnt _ hv]; rfl)
            | false => exact exec _ hI' h1 (by rw [wnt _ hv]; rfl)
        · rename_i he
          rw [he] at henv
          have hv : a.tmps.getD dj undef = undef := by generalize a.tmps.getD dj undef = y at henv; cases henv; rfl
          exact pass st hI h (by simp [Region.wanted, hg, yielded_un hdj' hv])
        · exact h.elim

theorem liveC_get {obj : Objs} : ∀ {cs : List CV} (_ : liveC obj cs = true) {j t g : Nat}, cs[j]? = some (.rs t g) → ∃ el sz ds foc, obj t = (g, .arr el sz ds foc)
  | [], _, _, _, _, hj => by simp at hj
  | c :: r, h, j, t, g, hj => by
    cases j with
    | zero =>
      simp at hj
      subst hj
      unfold liveC at h
      split at h
      · rename_i g' el sz ds foc ho
        cases hb : Nat.beq g g' with
        | false => rw [hb] at h; cases h
        | true => have := Nat.eq_of_beq_eq_true hb; subst this; exact ⟨_, _, _, _, ho⟩
      · cases h
    | succ j =>
      have hr : liveC obj r = true := by
        unfold liveC at h
        split at h
        · rename_i he; cases he
        · rename_i t' g' r' he
          injection he with h1 h2
          subst h2
          split at h
          · rename_i g2 el sz ds foc ho
            cases hb : Nat.beq g' g2 with
            | false => rw [hb] at h; cases h
            | true => rw [hb] at h; exact h
          · cases h
        · rename_i c' r' hne he
          injection he with h1 h2
          subst h2
          exact h
      exact liveC_get hr (by simpa using hj)
theorem normCV_rep {obj obj' : Objs} {c : CV} {x : Value} (h : RepX Z w obj E c x) (hl : ∀ t g, c = .rs t g → ∃ el sz ds foc, obj t = (g, .arr el sz ds foc)) : RepX Z w obj' E (normCV c) x := by
  rcases h with h | ⟨t, g, rfl, hs, hg, hE⟩
  · cases h <;> exact .inl (by simp only [normCV]; constructor <;> assumption)
  · obtain ⟨el, sz, ds, foc, ho⟩ := hl t g rfl
    exact .inr ⟨t, 0, rfl, hs, Nat.zero_le _, fun _ _ _ _ _ => hE _ _ _ _ ho⟩
theorem normCV_atom (c : CV) : (normCV c).atom = c.atom := by cases c <;> rfl

theorem Inv.weak (hI : Inv G Z0 w0 n Z E st a w) {st' : St} (hw : Weak st st') : Inv G Z0 w0 n Z E st' a w := by
  obtain ⟨h1, h2⟩ := hw
  have hblkN : ∀ (o : AObj) (e : Value) (b : Nat), (normO st.obj o).blk e = some b → o.blk e = some b := by
    intro o e b h
    unfold normO at h
    split at h
    · rename_i cs
      cases hl : liveC st.obj cs with
      | true => rw [hl] at h; cases e <;> first | exact h | (rename_i aa _ _; cases aa <;> exact h) | (rename_i aa; cases aa <;> exact h)
      | false => rw [hl] at h; simp [AObj.blk] at h
    · rename_i el sz ds m cs
      cases hl : liveC st.obj cs with
      | true => rw [hl] at h; cases e <;> first | exact h | (rename_i aa _ _; cases aa <;> exact h) | (rename_i aa; cases aa <;> exact h)
      | false => rw [hl] at h; simp [AObj.blk] at h
    · exact h
  have hblk : ∀ s b, (st'.obj s).2.blk (E s) = some b → (st.obj s).2.blk (E s) = some b := fun s b hb => by
    rcases h2 s with h | h
    · rw [h] at hb; simp [AObj.blk] at hb
    · rw [h] at hb; exact hblkN _ _ _ hb
  refine { hI with env := fun t => ?_, obj := fun t => ?_, apart := fun t t' b hne ha hb => hI.apart t t' b hne (hblk t b ha) (hblk t' b hb) }
  · have henv := hI.env t
    rcases h1 t with h | h
    · rw [h]; exact .any _
    · rw [h]
      generalize a.tmps.getD t undef = x at henv
      generalize st.env t = s at henv
      cases henv with
      | any x => exact .any x
      | un => exact .un
      | kt => exact .c _ _ (.v _)
      | kf => exact .c _ _ (.v _)
      | c c x h => exact .c c x h
      | fnr f caps vs => exact .any _
      | agx cs vs => exact .any _
      | ap t' g sz es x hrep hg ht =>
        simp only [normSV]
        split
        · rename_i g' el z ho
          cases hb : Nat.beq g g' with
          | true =>
            have := Nat.eq_of_beq_eq_true hb
            subst this
            exact .ap _ _ _ _ _ hrep (Nat.zero_le _) fun el' z' _ => ht _ _ ho
          | false => exact .c _ _ hrep
        · exact .c _ _ hrep
      | pm t' g off x hg hl =>
        simp only [normSV]
        split
        · rename_i g' cs ho
          cases hb : Nat.beq g g' with
          | true =>
            have := Nat.eq_of_beq_eq_true hb
            subst this
            exact .pm _ _ _ _ (Nat.zero_le _) fun _ => hl ⟨cs, .inl ho⟩
          | false => exact .any _
        · rename_i g' cs ho
          cases hb : Nat.beq g g' with
          | true =>
            have := Nat.eq_of_beq_eq_true hb
            subst this
            exact .pm _ _ _ _ (Nat.zero_le _) fun _ => hl ⟨cs, .inr (.inl ho)⟩
          | false => exact .any _
        · rename_i g' cs ho
          cases hb : Nat.beq g g' with
          | true =>
            have := Nat.eq_of_beq_eq_true hb
            subst this
            exact .pm _ _ _ _ (Nat.zero_le _) fun _ => hl ⟨cs, .inr (.inr ho)⟩
          | false => exact .any _
        · exact .any _
      | rs t' g x hs hg hE =>
        simp only [normSV]
        split
        · rename_i g' el sz ds foc ho
          cases hb : Nat.beq g g' with
          | true =>
            have := Nat.eq_of_beq_eq_true hb
            subst this
            exact .rs _ _ _ hs (Nat.zero_le _) fun _ _ _ _ _ => hE _ _ _ _ ho
          | false => exact .any _
        · exact .any _
      | pe t' g m off x hg hE =>
        simp only [normSV]
        split
        · rename_i g' el sz ds foc ho
          cases hb : Nat.beq g g' with
          | true =>
            have := Nat.eq_of_beq_eq_true hb
            subst this
            refine .pe _ _ _ _ _ (Nat.zero_le _) fun el' sz' ds' foc' he => ?_
            have hsz : sz' = sz := by
              rcases h2 t' with h | h
              · rw [h] at he; simp at he
              · rw [h, ho] at he
                simp only [Prod.mk.injEq, true_and] at he
                cases foc with
                | none => simp only [normO, AObj.arr.injEq] at he; exact he.2.1.symm
                | some p =>
                  obtain ⟨k, cs⟩ := p
                  simp only [normO] at he
                  cases hlv : liveC st.obj cs with
                  | true => rw [hlv] at he; simp only [cond_true, AObj.arr.injEq] at he; exact he.2.1.symm
                  | false => rw [hlv] at he; simp at he
            subst hsz
            exact hE _ _ _ _ ho
          | false => exact .any _
        · exact .any _
  · have hot := hI.obj t
    rcases h2 t with h | h
    · rw [h]; trivial
    · rw [h]
      show ObjOk Z w0.heap.size w st'.obj E (E t) (normO st.obj (st.obj t).2)
      cases ho : (st.obj t).2 with
      | none => trivial
      | spent => trivial
      | var cs => rw [ho] at hot; exact hot
      | ro cs => rw [ho] at hot; exact hot
      | tok el sz => rw [ho] at hot; exact hot
      | varx cs =>
        rw [ho] at hot
        simp only [normO]
        cases hl : liveC st.obj cs with
        | false => trivial
        | true =>
          obtain ⟨b, el, arr, he, hn, hh, hs, hc, hz⟩ := hot
          refine ⟨b, el, arr, he, hn, hh, by simpa using hs, fun j c hj => ?_, hz⟩
          rw [List.getElem?_map] at hj
          cases hcj : cs[j]? with
          | none => rw [hcj] at hj; simp at hj
          | some c0 =>
            rw [hcj] at hj
            simp at hj
            subst hj
            obtain ⟨q1, x, q2, q3⟩ := hc j c0 hcj
            exact ⟨by rw [normCV_atom]; exact q1, x, q2, normCV_rep q3 fun t g he => liveC_get hl (by rw [hcj, he])⟩
      | arr el sz ds foc =>
        rw [ho] at hot
        cases foc with
        | none =>
          simp only [normO]
          obtain ⟨xs, q1, q2, q3, q4, q5, q6⟩ := hot
          refine ⟨xs, q1, q2, q3, q4, fun i d hi hd j c hj => ?_, q6⟩
          obtain ⟨r1, u, r2, r3⟩ := q5 i d hi hd j c hj
          exact ⟨r1, u, r2, .inl (r3.closed (noRs_get (q3.2 i d hd (fun _ _ h => nomatch h)) hj))⟩
        | some p =>
          obtain ⟨m, cs⟩ := p
          simp only [normO]
          cases hl : liveC st.obj cs with
          | false => trivial
          | true =>
            obtain ⟨xs, q1, q2, q3, q4, q5, q6⟩ := hot
            have hcx : ∀ k, cellX ds (some (m, cs.map normCV)) k = if k = m then some (cs.map normCV) else ds[k]? := fun k => rfl
            have hcx0 : ∀ k, cellX ds (some (m, cs)) k = if k = m then some cs else ds[k]? := fun k => rfl
            refine ⟨xs, q1, q2, ⟨fun m' d' he => ?_, fun i d hd hne => ?_⟩, fun i d hi hd => ?_, fun i d hi hd j c hj => ?_, q6⟩
            · simp only [Option.some.injEq, Prod.mk.injEq] at he
              rw [← he.1]
              exact q3.1 m cs rfl
            · exact q3.2 i d hd (fun m' d'' he => by
                simp only [Option.some.injEq, Prod.mk.injEq] at he
                rw [← he.1]
                exact hne m _ rfl)
            · rw [hcx] at hd
              by_cases hk : i = m
              · rw [if_pos hk] at hd
                injection hd with hd
                subst hd
                rw [List.length_map]
                exact q4 i cs hi (by rw [hcx0, if_pos hk])
              · rw [if_neg hk] at hd
                exact q4 i d hi (by rw [hcx0, if_neg hk]; exact hd)
            · rw [hcx] at hd
              by_cases hk : i = m
              · rw [if_pos hk] at hd
                injection hd with hd
                subst hd
                rw [List.getElem?_map] at hj
                cases hcj : cs[j]? with
                | none => rw [hcj] at hj; simp at hj
                | some c0 =>
                  rw [hcj] at hj
                  simp at hj
                  subst hj
                  obtain ⟨r1, u, r2, r3⟩ := q5 i cs hi (by rw [hcx0, if_pos hk]) j c0 hcj
                  exact ⟨by rw [normCV_atom]; exact r1, u, r2, normCV_rep r3 fun t g he => liveC_get hl (by rw [hcj, he])⟩
              · rw [if_neg hk] at hd
                obtain ⟨r1, u, r2, r3⟩ := q5 i d hi (by rw [hcx0, if_neg hk]; exact hd) j c hj
                exact ⟨r1, u, r2, .inl (r3.closed (noRs_get (q3.2 i d hd (fun m' d'' he => by
                  simp only [Option.some.injEq, Prod.mk.injEq] at he
                  rw [← he.1]; exact hk)) hj))⟩

theorem wpA_sound (hT : TOk P T) (hm : P.follows .mixedOrders = true) (code : Code) : ∀ {Q : Exit → Act → World → Prop} {K : Exit → St → Prop} (_ : ∀ e Z' E' st' a' w', K e st' → Inv G Z0 w0 n Z' E' st' a' w' → Q e a' w')
    (Z : Zone) (E : Nat → Value) (st : St) (a : Act) (w : World), Inv G Z0 w0 n Z E st a w → wpA (Holds P G) T n code K st → code.wp P Q a w := by
  induction code with
  | skip => intro Q K hK Z E st a w hI h; exact wp_skip (hK _ _ _ _ _ _ h hI)
  | region id ops draw =>
    intro Q K hK Z E st a w hI h
    simp only [wpA] at h
    cases draw with
    | true => exact wpDraw_sound hT hm (fun Z' E' st' a' w' hk hI' => hK _ _ _ _ _ _ hk hI') hI h
    | false =>
      simp only [cond_false] at h
      have := wpOps_sound (Q := Q) hT ops.toList (fun Z' E' st' a' w' hk hI' => hK _ _ _ _ _ _ hk hI') ops.toList Z E st a w hI h
      refine wp_region_list ?_
      simpa using this
  | seq x y ihx ihy =>
    intro Q K hK Z E st a w hI h
    simp only [wpA] at h
    refine wp_seq (ihx (fun e Z' E' st' a' w' hk hI' => ?_) Z E st a w hI h)
    cases e with
    | normal => exact ihy hK _ _ _ _ _ hI' hk
    | exit id => exact hK _ _ _ _ _ _ hk hI'
    | goto l => exact hK _ _ _ _ _ _ hk hI'
    | ret => exact hK _ _ _ _ _ _ hk hI'
    | panic ch => exact hK _ _ _ _ _ _ hk hI'
    | outgrown => exact hK _ _ _ _ _ _ hk hI'
  | cond c x y ihx ihy =>
    intro Q K hK Z E st a w hI h
    simp only [wpA] at h
    have hc := look_rep hI c
    split at h
    · rename_i he
      rw [he] at hc
      have hv : a.eval c = .bool true := by generalize a.eval c = y at hc; cases hc; rfl
      exact wp_cond_true hv (ihx hK _ _ _ _ _ hI h)
    · rename_i he
      rw [he] at hc
      have hv : a.eval c = .bool false := by generalize a.eval c = y at hc; cases hc; rfl
      exact wp_cond_false hv (ihy hK _ _ _ _ _ hI h)
    · rename_i q he
      rw [he] at hc
      have hv : a.eval c = .bool q := rep_cv hc
      cases q with
      | true => exact wp_cond_true hv (ihx hK _ _ _ _ _ hI (h.1 rfl))
      | false => exact wp_cond_false hv (ihy hK _ _ _ _ _ hI (h.2 rfl))
    · exact h.elim
  | block id body ih =>
    intro Q K hK Z E st a w hI h
    simp only [wpA] at h
    refine wp_block (ih (fun e Z' E' st' a' w' hk hI' => ?_) Z E st a w hI h)
    cases e with
    | exit j =>
      simp only [Exit.inBlock]
      cases hb : Nat.beq j id with
      | true =>
        simp only [hb, cond_true] at hk
        rw [if_pos (Nat.eq_of_beq_eq_true hb)]
        exact hK _ _ _ _ _ _ hk hI'
      | false =>
        simp only [hb, cond_false] at hk
        rw [if_neg (fun e => by subst e; simp at hb)]
        exact hK _ _ _ _ _ _ hk hI'
    | normal => exact hK _ _ _ _ _ _ hk hI'
    | goto l => exact hK _ _ _ _ _ _ hk hI'
    | ret => exact hK _ _ _ _ _ _ hk hI'
    | panic ch => exact hK _ _ _ _ _ _ hk hI'
    | outgrown => exact hK _ _ _ _ _ _ hk hI'
  | loop body ih =>
    intro Q K hK Z E st a w hI h
    simp only [wpA] at h
    obtain ⟨I, ⟨k, st0, hw, hi⟩, hstep⟩ := h
    have key : ∀ m k (Z : Zone) (E : Nat → Value) st a w, k < m → I k st → Inv G Z0 w0 n Z E st a w → Code.rounds P body Q m a w := by
      intro m
      induction m with
      | zero => intro k Z E st a w hk; omega
      | succ m ihm =>
        intro k Z E st a w hk hi hI
        rw [rounds_succ]
        refine ih (fun e Z' E' st' a' w' hk' hI' => ?_) Z E st a w hI (hstep k st hi)
        cases e with
        | normal =>
          obtain ⟨k', st3, hlt, hw3, hi3⟩ := hk'
          exact ihm k' Z' E' st3 a' w' (by omega) hi3 (hI'.weak hw3)
        | exit j => exact hK _ _ _ _ _ _ hk' hI'
        | goto l => exact hK _ _ _ _ _ _ hk' hI'
        | ret => exact hK _ _ _ _ _ _ hk' hI'
        | panic ch => exact hK _ _ _ _ _ _ hk' hI'
        | outgrown => exact hK _ _ _ _ _ _ hk' hI'
    exact wp_loop_rounds (k + 1) (key (k + 1) k Z E st0 a w (by omega) hi (hI.weak hw))
  | exit id => intro Q K hK Z E st a w hI h; exact wp_exit (hK _ _ _ _ _ _ h hI)
  | ret => intro Q K hK Z E st a w hI h; exact wp_ret (hK _ _ _ _ _ _ h hI)
  | rangeFunc f ps x y => intro Q K hK Z E st a w hI h; exact h.elim
  | scope body => intro Q K hK Z E st a w hI h; exact h.elim
  | label l => intro Q K hK Z E st a w hI h; exact h.elim
  | goto l => intro Q K hK Z E st a w hI h; exact h.elim
  | refuse why => intro Q K hK Z E st a w hI h; exact h.elim

theorem resC_run (hT : TOk P T) (hI : Inv G Z0 w0 n Z E st a w) {rv : ResultVar} {c : CV} (h : resC T st rv = some c) :
    ∃ x, (match rv with | .tmp t => pure (a.tmps.getD t undef) | .cell y t => do loadVar t (← asAddr (a.tmps.getD y undef)) : Sem Value).run P w = .ok x w ∧ Rep Z w c x := by
  cases rv with
  | tmp t => exact ⟨_, by simp, asC_rep (hI.env t) h⟩
  | cell y t =>
    simp only [resC] at h
    split at h
    · rename_i i s g off hti he
      split at h
      · rename_i g' cs ho
        cases hb : Nat.beq g g' with
        | false => rw [hb] at h; simp at h
        | true =>
          rw [hb] at h
          simp only [cond_true] at h
          have := Nat.eq_of_beq_eq_true hb
          subst this
          have henv := hI.env y
          rw [he] at henv
          obtain ⟨b, _, hx, f, hc⟩ := var_cells hI (.inl ho) henv
          obtain ⟨v, hv, hr⟩ := run_part (o := 0) (hT _ _ hti) (fun j c hj => by rw [Nat.zero_add]; exact hc j c hj) h
          refine ⟨v, ?_, hr⟩
          simp only [Instr.loadAt, Instr.sureAddr, Sem.run_bind, Sem.run_pure, Result.andThen_ok, Nat.zero_add] at hv
          simp only [hx, asAddr, Sem.run_bind, Sem.run_pure, Result.andThen_ok, hv]
      · simp at h
    · simp at h

theorem resAll_run (hT : TOk P T) (hI : Inv G Z0 w0 n Z E st a w) : ∀ (rs : List ResultVar) (cs : List CV), resAll T st rs = some cs →
    ∃ vs, (rs.mapM fun rv => (match rv with | .tmp t => pure (a.tmps.getD t undef) | .cell y t => do loadVar t (← asAddr (a.tmps.getD y undef)) : Sem Value)).run P w = .ok vs w ∧ RepL Z w cs vs
  | [], cs, h => by simp [resAll] at h; subst h; exact ⟨[], by simp, RepL.nil _ _⟩
  | rv :: rs, cs, h => by
    simp only [resAll] at h
    split at h
    · rename_i c cs' h1 h2
      simp at h
      subst h
      obtain ⟨x, hx, hr⟩ := resC_run hT hI h1
      obtain ⟨vs, hvs, hrs⟩ := resAll_run hT hI rs cs' h2
      refine ⟨x :: vs, ?_, RepL.cons hr hrs⟩
      simp only [List.mapM_cons, Sem.run_bind, hx, Result.andThen_ok, hvs, Sem.run_pure]
    · simp at h

theorem results_run (hT : TOk P T) (hI : Inv G Z0 w0 n Z E st a w) {fn : Func} {r : CV} (h : resVal T st fn.results.toList = some r) : ∃ x, (results fn a.tmps).run P w = .ok x w ∧ Rep Z w r x := by
  unfold results
  rw [Array.mapM_eq_mapM_toList]
  unfold resVal at h
  split at h
  · rename_i rv hrs
    obtain ⟨x, hx, hr⟩ := resC_run hT hI h
    refine ⟨x, ?_, hr⟩
    simp only [hrs, List.mapM_cons, List.mapM_nil, Sem.run_bind, Sem.run_map, Sem.run_pure, Result.andThen_ok]
    exact congrArg (fun r : Result Value => ((r.andThen fun a w' => Result.ok [a] w').andThen fun a w' => Result.ok a.toArray w').andThen fun a w' => Result.ok (if h : a.size = 1 then a[0] else Value.tuple a) w') hx
  · rename_i hne
    cases hra : resAll T st fn.results.toList with
    | none => rw [hra] at h; simp at h
    | some cs =>
      rw [hra] at h
      simp at h
      subst h
      obtain ⟨vs, hvs, hrs⟩ := resAll_run hT hI _ _ hra
      have hlen : ∀ (rs : List ResultVar) (cs : List CV), resAll T st rs = some cs → cs.length = rs.length := by
        intro rs
        induction rs with
        | nil => intro cs h; simp [resAll] at h; subst h; rfl
        | cons rv rs ih =>
          intro cs h
          simp only [resAll] at h
          split at h
          · rename_i c cs' _ h2; simp at h; subst h; simp [ih cs' h2]
          · simp at h
      have h1 : vs.length ≠ 1 := fun e => by
        have := hlen _ _ hra
        rw [hrs.1, e] at this
        match hl : fn.results.toList, this with
        | [x], _ => exact hne x hl
      refine ⟨.tuple vs.toArray, ?_, .tup cs vs hrs.1 hrs.2⟩
      simp only [Sem.run_bind, Sem.run_map, Sem.run_pure]
      refine (congrArg (fun r : Result (List Value) => (r.andThen fun a w' => Result.ok a.toArray w').andThen fun a w' => Result.ok (if h : a.size = 1 then a[0] else Value.tuple a) w') hvs).trans ?_
      simp only [Result.andThen_ok]
      rw [dif_neg (by simpa using h1)]

theorem init_rep : ∀ (args : List CV) (vs : List Value) (_ : RepL Z w args vs) (t : Nat), RepS Z w (fun _ => (0, .none)) E (initEnv args t) (vs.getD t undef)
  | [], vs, _, t => .any _
  | c :: args, [], h, t => by have := h.1; simp at this
  | c :: args, x :: vs, h, 0 => .c _ _ h.head
  | c :: args, x :: vs, h, t + 1 => by simpa [initEnv] using init_rep args vs h.tail t
end
end Go.Abs
