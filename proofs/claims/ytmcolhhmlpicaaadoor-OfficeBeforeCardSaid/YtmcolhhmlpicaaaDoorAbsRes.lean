/-
  Soundness: results, slices of the call's own among them; then whole functions.
-/
import Derived.Test.YtmcolhhmlpicaaaDoorAbsSound
namespace Go.Abs
open Go Go.RowKit

section
variable {P : Program} {G : World → Prop} {T : Tab} {Z0 : Base} {w0 : World} {S : Nat → Prop} {n : Nat} {Z Z' : Zone} {E : Nat → Value} {st : St} {a : Act} {w w' : World}

def readRes (a : Act) (rv : ResultVar) : Sem Value := match rv with | .tmp t => pure (a.tmps.getD t undef) | .cell y t => do loadVar t (← asAddr (a.tmps.getD y undef))
/-- All that the call made is closed. -/
def Zall (Z : Zone) (obj : Objs) (E : Nat → Value) : Zone := fun b o => Z b o ∨ ∃ s, (obj s).2.blk (E s) = some b
theorem Zall_keep : Keeps Z w (Zall Z st.obj E) w := fun _ _ hz => ⟨.inl hz, rfl, fun _ _ h => h⟩
theorem Zf_all {ts : List Nat} : Keeps (Zf Z st.obj E ts) w (Zall Z st.obj E) w := fun _ _ hz => ⟨hz.imp id fun ⟨s, _, h⟩ => ⟨s, h⟩, rfl, fun _ _ h => h⟩
theorem arr_closed (hI : Inv G Z0 w0 S n Z E st a w) {t g el sz : Nat} {ds : List (List CV)} (ho : st.obj t = (g, .arr el sz ds none)) : Rep (Zall Z st.obj E) w (.sl sz ds) (E t) :=
  (arr_rep hI ho (List.mem_singleton.2 rfl) rfl).keep Zf_all
theorem frz_spec (hI : Inv G Z0 w0 S n Z E st a w) {cs cs' : List CV} (h : frzCells st.obj cs = some cs') : cs'.length = cs.length ∧ ∀ (j : Nat) (c c' : CV), cs[j]? = some c → cs'[j]? = some c' →
    (c.atom = true → c'.atom = true) ∧ ∀ x, RepX Z w st.obj E c x → Rep (Zall Z st.obj E) w c' x := by
  unfold frzCells at h
  cases hf : frzCs st.obj cs with
  | none => rw [hf] at h; simp at h
  | some p =>
    obtain ⟨ds, ts⟩ := p
    rw [hf] at h
    simp at h
    subst h
    obtain ⟨h1, h2⟩ := frzCs_rep hI (us := ts) hf (fun _ h => h)
    refine ⟨h1, fun j c c' h3 h4 => ?_⟩
    obtain ⟨c0, h5, h6, h7⟩ := h2 j c' h4
    rw [h3] at h5
    cases h5
    exact ⟨h6, fun x hx => (h7 x hx).keep Zf_all⟩
theorem arrF_closed (hI : Inv G Z0 w0 S n Z E st a w) {t g el sz m : Nat} {ds : List (List CV)} {cs cs' : List CV} (ho : st.obj t = (g, .arr el sz ds (some (m, cs)))) (hf : frzCells st.obj cs = some cs') :
    Rep (Zall Z st.obj E) w (.sl sz (ds.set m cs')) (E t) := by
  have hot := hI.obj t
  rw [ho] at hot
  obtain ⟨xs, hsz, hown, hfoc, hdl, hcl, hz⟩ := hot
  have hm := hfoc.1 m cs rfl
  obtain ⟨hl, hsp⟩ := frz_spec hI hf
  have hcx : ∀ k, cellX ds (some (m, cs)) k = if k = m then some cs else ds[k]? := fun k => rfl
  have hcsl : cs.length = sz := hdl m cs hm (by rw [hcx, if_pos rfl])
  refine rep_own (m0 := ds.length) hown (by simp) (fun i d hd => ?_) (fun i j d c h1 h2 => ?_) (fun b o hb _ => .inr ⟨t, by rw [ho, arr_blk]; exact hb⟩)
  · by_cases hi : i = m
    · subst hi; rw [List.getElem?_set_self hm] at hd; injection hd with hd; subst hd; omega
    · rw [List.getElem?_set_ne (Ne.symm hi)] at hd
      exact hdl i d (List.getElem?_eq_some_iff.1 hd).1 (by rw [hcx, if_neg hi]; exact hd)
  · by_cases hi : i = m
    · subst hi
      rw [List.getElem?_set_self hm] at h1
      injection h1 with h1
      subst h1
      have hjl : j < cs.length := by rw [← hl]; exact (List.getElem?_eq_some_iff.1 h2).1
      obtain ⟨hat, u, hu, hr⟩ := hcl i cs hm (by rw [hcx, if_pos rfl]) j _ (List.getElem?_eq_getElem hjl)
      obtain ⟨q1, q2⟩ := hsp j _ c (List.getElem?_eq_getElem hjl) h2
      exact ⟨q1 hat, u, hu, q2 u hr⟩
    · rw [List.getElem?_set_ne (Ne.symm hi)] at h1
      obtain ⟨hat, u, hu, hr⟩ := hcl i d (List.getElem?_eq_some_iff.1 h1).1 (by rw [hcx, if_neg hi]; exact h1) j c h2
      have hcr := noRs_get (hfoc.2 i d h1 (fun m' d'' he => by
        simp only [Option.some.injEq, Prod.mk.injEq] at he
        rw [← he.1]; exact hi)) h2
      exact ⟨hat, u, hu, (hr.closed hcr).keep Zall_keep⟩

theorem resX_run (hT : TOk P T) (hI : Inv G Z0 w0 S n Z E st a w) {rv : ResultVar} {c : CV} (h : resX T st rv c) :
    ∃ x, (readRes a rv).run P w = .ok x w ∧ Rep (Zall Z st.obj E) w c x := by
  have old : resC T st rv = some c → ∃ x, (readRes a rv).run P w = .ok x w ∧ Rep (Zall Z st.obj E) w c x := fun h => by
    obtain ⟨x, h1, h2⟩ := resC_run hT hI h
    exact ⟨x, by cases rv <;> exact h1, h2.keep Zall_keep⟩
  cases rv with
  | tmp t =>
    have henv := hI.env t
    unfold resX at h
    simp only at h
    split at h
    · rename_i s g he
      rw [he] at henv
      split at h
      · rename_i g' el sz ds foc ho
        obtain ⟨hb, ds', rfl, h⟩ := h
        have := Nat.eq_of_beq_eq_true hb
        subst this
        refine ⟨a.tmps.getD t undef, rfl, ?_⟩
        have hE : a.tmps.getD t undef = E s := by
          generalize a.tmps.getD t undef = y at henv
          cases henv with | rs _ _ _ _ _ hE => exact (hE _ _ _ _ ho).symm
        rw [hE]
        cases foc with
        | none => simp only at h; subst h; exact arr_closed hI ho
        | some p =>
          obtain ⟨m, cs⟩ := p
          obtain ⟨cs', hf, rfl⟩ := h
          exact arrF_closed hI ho hf
      · exact h.elim
    · rename_i cs he
      rw [he] at henv
      obtain ⟨cs', hf, rfl⟩ := h
      refine ⟨a.tmps.getD t undef, rfl, ?_⟩
      generalize a.tmps.getD t undef = y at henv
      cases henv with
      | agx _ vs hl hr ha =>
        obtain ⟨q1, q2⟩ := frz_spec hI hf
        refine .agg cs' vs (by omega) (fun i c v h1 h2 => ?_) (fun i c h1 => ?_)
        · have hil : i < cs.length := by rw [← q1]; exact (List.getElem?_eq_some_iff.1 h1).1
          exact (q2 i _ c (List.getElem?_eq_getElem hil) h1).2 v (hr i _ v (List.getElem?_eq_getElem hil) h2)
        · have hil : i < cs.length := by rw [← q1]; exact (List.getElem?_eq_some_iff.1 h1).1
          exact (q2 i _ c (List.getElem?_eq_getElem hil) h1).1 (ha i _ (List.getElem?_eq_getElem hil))
    · rename_i s g he
      rw [he] at henv
      split at h
      · rename_i g' es ho
        obtain ⟨hb, rfl⟩ := h
        have := Nat.eq_of_beq_eq_true hb
        subst this
        have hf : frzCells st.obj [.mr s g] = some [.mp es] := by simp [frzCells, frzCs, frzC1, ho]
        obtain ⟨_, q2⟩ := frz_spec hI hf
        refine ⟨a.tmps.getD t undef, rfl, ?_⟩
        generalize a.tmps.getD t undef = y at henv
        cases henv with | mr _ _ _ hs hg hE => exact (q2 0 _ _ rfl rfl).2 _ (.one (.mr _ _ _ hs hg hE))
      · exact h.elim
    · exact old h
  | cell y t =>
    unfold resX at h
    simp only at h
    split at h
    · rename_i i s g off hti he
      have henv := hI.env y
      rw [he] at henv
      split at h
      · rename_i g' cs ho
        obtain ⟨hb, cs', hf, hp⟩ := h
        have := Nat.eq_of_beq_eq_true hb
        subst this
        obtain ⟨b, _, hx, f, hc⟩ := varx_cells hI ho henv
        obtain ⟨q1, q2⟩ := frz_spec hI hf
        obtain ⟨v, hv, hr⟩ := run_part (Z := Zall Z st.obj E) (o := 0) (cs := cs') (hT _ _ hti) (fun j c hj => by
          have hil : j < cs.length := by rw [← q1]; exact (List.getElem?_eq_some_iff.1 hj).1
          obtain ⟨r1, r2, r3⟩ := hc j _ (List.getElem?_eq_getElem hil)
          obtain ⟨s1, s2⟩ := q2 j _ c (List.getElem?_eq_getElem hil) hj
          rw [Nat.zero_add]; exact ⟨r1, s1 r2, s2 _ r3⟩) hp
        refine ⟨v, ?_, hr⟩
        simp only [Instr.loadAt, Instr.sureAddr, Sem.run_bind, Sem.run_pure, Result.andThen_ok, Nat.zero_add] at hv
        simp only [readRes, hx, asAddr, Sem.run_bind, Sem.run_pure, Result.andThen_ok, hv]
      · exact old h
    · exact h.elim

theorem resXs_run (hT : TOk P T) (hI : Inv G Z0 w0 S n Z E st a w) : ∀ (rs : List ResultVar) (cs : List CV), resXs T st rs cs →
    ∃ vs, (rs.mapM fun rv => readRes a rv).run P w = .ok vs w ∧ RepL (Zall Z st.obj E) w cs vs ∧ cs.length = rs.length
  | [], cs, h => by simp [resXs] at h; subst h; exact ⟨[], by simp, RepL.nil _ _, rfl⟩
  | rv :: rs, [], h => by simp [resXs] at h
  | rv :: rs, c :: cs, h => by
    obtain ⟨x, hx, hr⟩ := resX_run hT hI h.1
    obtain ⟨vs, hvs, hrs, hl⟩ := resXs_run hT hI rs cs h.2
    refine ⟨x :: vs, ?_, RepL.cons hr hrs, by simp [hl]⟩
    simp only [List.mapM_cons, Sem.run_bind, hx, Result.andThen_ok, hvs, Sem.run_pure]

theorem results_eq (fn : Func) (a : Act) : results fn a.tmps = (do
    let vs ← (fn.results.toList.mapM (readRes a))
    pure (if h : vs.toArray.size = 1 then vs.toArray[0] else Value.tuple vs.toArray)) := by
  unfold results
  rw [Array.mapM_eq_mapM_toList]
  simp only [map_eq_pure_bind, bind_assoc, pure_bind]
  first | rfl | (congr 1; congr 1; funext rv; cases rv <;> rfl)
theorem results_one {fn : Func} {rv : ResultVar} {x : Value} (hrs : fn.results.toList = [rv]) (hx : (readRes a rv).run P w = .ok x w) : (results fn a.tmps).run P w = .ok x w := by
  rw [results_eq, hrs]
  simp [hx]
theorem results_many {fn : Func} {vs : List Value} (hvs : (fn.results.toList.mapM fun rv => readRes a rv).run P w = .ok vs w) (h1 : vs.length ≠ 1) : (results fn a.tmps).run P w = .ok (.tuple vs.toArray) w := by
  rw [results_eq]
  simp only [Sem.run_bind, hvs, Result.andThen_ok, Sem.run_pure]
  rw [dif_neg (by simpa using h1)]

theorem osOk_spec {τ : List (Nat × Nat)} : ∀ {l : List (Nat × Nat)} {os : List (Nat × Nat × List (List CV) × Option (Nat × List CV))}, osOk st τ l os → os.length = l.length ∧ ∀ (j t g : Nat), l[j]? = some (t, g) → ∃ el sz ds foc f, os[j]? = some (el, sz, ds, foc) ∧ backF τ foc = some f ∧ st.obj t = (g, .arr el sz ds f)
  | [], os, h => by simp [osOk] at h; subst h; exact ⟨rfl, fun j t g h => by simp at h⟩
  | (t0, g0) :: l, [], h => by simp [osOk] at h
  | (t0, g0) :: l, (el, sz, ds, foc) :: os, h => by
    simp only [osOk] at h
    obtain ⟨h1, h2⟩ := h
    obtain ⟨q1, q2⟩ := osOk_spec h2
    refine ⟨by simp [q1], fun j t g hj => ?_⟩
    cases j with
    | zero =>
      simp at hj
      obtain ⟨rfl, rfl⟩ := hj
      split at h1
      · rename_i f hf
        exact ⟨el, sz, ds, foc, f, rfl, hf, h1⟩
      · exact h1.elim
    | succ j => exact q2 j t g (by simpa using hj)
theorem backL_spec {τ : List (Nat × Nat)} : ∀ {cs cs' : List CV}, backL τ cs = some cs' → cs'.length = cs.length ∧ ∀ (j : Nat) (c c' : CV), cs[j]? = some c → cs'[j]? = some c' → backC τ c = some c'
  | [], cs', h => by simp [backL] at h; subst h; exact ⟨rfl, fun j c c' h => by simp at h⟩
  | c0 :: r, cs', h => by
    simp only [backL] at h
    split at h
    · rename_i c1 cs1 h1 h2
      simp at h
      subst h
      obtain ⟨q1, q2⟩ := backL_spec h2
      refine ⟨by simp [q1], fun j c c' hj hj' => ?_⟩
      cases j with
      | zero => simp at hj hj'; subst hj; subst hj'; exact h1
      | succ j => exact q2 j c c' (by simpa using hj) (by simpa using hj')
    · simp at h
theorem backC_rs {τ : List (Nat × Nat)} {c c' : CV} (h : backC τ c = some c') : c.isRs = false ∧ (∀ j, c = .ow j → j < τ.length) ∧ (c.atom = c'.atom) := by
  cases c with
  | ow j =>
    simp only [backC] at h
    split at h
    · rename_i t g ht
      simp at h
      subst h
      exact ⟨rfl, fun k e => by cases e; exact (List.getElem?_eq_some_iff.1 ht).1, rfl⟩
    · simp at h
  | rs t g => simp [backC] at h
  | pr t g off => simp [backC] at h
  | mr t g => simp [backC] at h
  | fr f caps => simp [backC] at h
  | _ => simp only [backC, Option.some.injEq] at h; subst h; exact ⟨rfl, fun k e => (nomatch e), rfl⟩
theorem nodup_spec : ∀ {l : List Nat}, nodupB l = true → ∀ (i j x : Nat), l[i]? = some x → l[j]? = some x → i = j
  | [], _, i, j, x, h, _ => by simp at h
  | y :: r, h, i, j, x, hi, hj => by
    simp only [nodupB] at h
    cases hb : r.any (Nat.beq y) with
    | true => rw [hb] at h; cases h
    | false =>
      rw [hb] at h
      have hno : ∀ k, r[k]? ≠ some y := fun k hk => by
        have : r.any (Nat.beq y) = true := List.any_eq_true.2 ⟨y, List.mem_of_getElem? hk, by simp⟩
        rw [this] at hb; cases hb
      cases i with
      | zero =>
        cases j with
        | zero => rfl
        | succ j => simp at hi hj; subst hi; exact absurd hj (hno j)
      | succ i =>
        cases j with
        | zero => simp at hi hj; subst hj; exact absurd hi (hno i)
        | succ j => rw [nodup_spec h i j x (by simpa using hi) (by simpa using hj)]

theorem resW_run (hT : TOk P T) (hI : Inv G Z0 w0 S n Z E st a w) {fn : Func} {r : CV} {os : List (Nat × Nat × List (List CV) × Option (Nat × List CV))} (h : resW T st fn.results.toList r os) :
    ∃ x, (results fn a.tmps).run P w = .ok x w ∧ RepW Z (fun b => ¬ S b) w r os x := by
  obtain ⟨τ, hnd, hos, hr⟩ := h
  obtain ⟨hol, hosp⟩ := osOk_spec hos
  let Eo : Nat → Value := fun j => match τ[j]? with | some (t, _) => E t | .none => undef
  have hEo : ∀ j t g, τ[j]? = some (t, g) → Eo j = E t := fun j t g h => by simp only [Eo, h]
  have hget : ∀ j, j < os.length → ∃ t g el sz ds foc f, τ[j]? = some (t, g) ∧ os[j]? = some (el, sz, ds, foc) ∧ backF τ foc = some f ∧ st.obj t = (g, .arr el sz ds f) := fun j hj => by
    have hj' : j < τ.length := by omega
    obtain ⟨el, sz, ds, foc, f, h1, h2, h3⟩ := hosp j (τ[j]'hj').1 (τ[j]'hj').2 (List.getElem?_eq_getElem hj')
    exact ⟨_, _, el, sz, ds, foc, f, List.getElem?_eq_getElem hj', h1, h2, h3⟩
  have hobo : ∀ j el sz ds foc, os[j]? = some (el, sz, ds, foc) → obo os j = (0, .arr el sz ds (match foc with | .none => .none | some (m, cs) => some (m, cs.map own0))) := fun j el sz ds foc h => by
    cases foc with
    | none => simp [obo, h]
    | some p => obtain ⟨m, cs⟩ := p; simp [obo, h]
  have hcell : ∀ (c c' : CV) (u : Value), backC τ c = some c' → RepX Z w st.obj E c' u → RepX Z w (obo os) Eo (own0 c) u := by
    intro c c' u hb hx
    cases c with
    | ow j =>
      simp only [backC] at hb
      split at hb
      · rename_i t g ht
        simp at hb
        subst hb
        have hj : j < os.length := by rw [hol]; exact (List.getElem?_eq_some_iff.1 ht).1
        obtain ⟨t', g', el, sz, ds, foc, f, h1, h2, h3, h4⟩ := hget j hj
        rw [ht] at h1
        simp at h1
        obtain ⟨rfl, rfl⟩ := h1
        cases hx with
        | one hx =>
          cases hx with
          | cl hx => cases hx
          | rs _ _ _ hs _ hE =>
            refine .one (.rs j 0 _ hs (Nat.zero_le _) fun _ _ _ _ _ => ?_)
            rw [hEo j t g ht]
            exact hE _ _ _ _ h4
      · simp at hb
    | rs t g => simp [backC] at hb
    | pr t g off => simp [backC] at hb
    | mr t g => simp [backC] at hb
    | fr f caps => simp [backC] at hb
    | _ => simp only [backC, Option.some.injEq] at hb; subst hb; exact .cl (hx.closed rfl)
  have hobj : ∀ j, ObjOk Z w (obo os) Eo (Eo j) (obo os j).2 := by
    intro j
    by_cases hj : j < os.length
    · obtain ⟨t, g, el, sz, ds, foc, f, h1, h2, h3, h4⟩ := hget j hj
      have hot := hI.obj t
      rw [h4] at hot
      rw [hobo j el sz ds foc h2, hEo j t g h1]
      cases foc with
      | none =>
        simp [backF] at h3
        subst h3
        obtain ⟨xs, q1, q2, q3, q4, q5, q6⟩ := hot
        refine ⟨xs, q1, q2, q3, q4, fun i d hi hd j c hj => ?_, q6⟩
        obtain ⟨r1, u, r2, r3⟩ := q5 i d hi hd j c hj
        exact ⟨r1, u, r2, .cl (r3.closed (noRs_get (q3.2 i d hd (fun _ _ h => nomatch h)) hj))⟩
      | some p =>
        obtain ⟨m, cs⟩ := p
        simp only [backF] at h3
        cases hbl : backL τ cs with
        | none => rw [hbl] at h3; simp at h3
        | some cs' =>
          rw [hbl] at h3
          simp at h3
          subst h3
          obtain ⟨b1, b2⟩ := backL_spec hbl
          obtain ⟨xs, q1, q2, q3, q4, q5, q6⟩ := hot
          have hcx : ∀ k, cellX ds (some (m, cs.map own0)) k = if k = m then some (cs.map own0) else ds[k]? := fun k => rfl
          have hcx0 : ∀ k, cellX ds (some (m, cs')) k = if k = m then some cs' else ds[k]? := fun k => rfl
          refine ⟨xs, q1, q2, ⟨fun m' d' he => ?_, fun i d hd hne => ?_⟩, fun i d hi hd => ?_, fun i d hi hd j' c hj' => ?_, q6⟩
          · simp only [Option.some.injEq, Prod.mk.injEq] at he
            rw [← he.1]
            exact q3.1 m cs' rfl
          · exact q3.2 i d hd (fun m' d'' he => by
              simp only [Option.some.injEq, Prod.mk.injEq] at he
              rw [← he.1]
              exact hne m _ rfl)
          · rw [hcx] at hd
            by_cases hk : i = m
            · rw [if_pos hk] at hd
              injection hd with hd
              subst hd
              rw [List.length_map, ← b1]
              exact q4 i cs' hi (by rw [hcx0, if_pos hk])
            · rw [if_neg hk] at hd
              exact q4 i d hi (by rw [hcx0, if_neg hk]; exact hd)
          · rw [hcx] at hd
            by_cases hk : i = m
            · rw [if_pos hk] at hd
              injection hd with hd
              subst hd
              rw [List.getElem?_map] at hj'
              cases hcj : cs[j']? with
              | none => rw [hcj] at hj'; simp at hj'
              | some c0 =>
                rw [hcj] at hj'
                simp at hj'
                subst hj'
                have hjl : j' < cs'.length := by rw [b1]; exact (List.getElem?_eq_some_iff.1 hcj).1
                have hbc := b2 j' c0 _ hcj (List.getElem?_eq_getElem hjl)
                obtain ⟨r1, u, r2, r3⟩ := q5 i cs' hi (by rw [hcx0, if_pos hk]) j' _ (List.getElem?_eq_getElem hjl)
                refine ⟨?_, u, r2, hcell c0 _ u hbc r3⟩
                rw [← (backC_rs hbc).2.2] at r1
                cases c0 <;> first | exact r1 | rfl
            · rw [if_neg hk] at hd
              obtain ⟨r1, u, r2, r3⟩ := q5 i d hi (by rw [hcx0, if_neg hk]; exact hd) j' c hj'
              exact ⟨r1, u, r2, .cl (r3.closed (noRs_get (q3.2 i d hd (fun m' d'' he => by
                simp only [Option.some.injEq, Prod.mk.injEq] at he
                rw [← he.1]; exact hk)) hj'))⟩
    · have : obo os j = (0, .none) := by simp [obo, List.getElem?_eq_none (Nat.le_of_not_lt hj)]
      rw [this]; trivial
  have hblk : ∀ j b, (obo os j).2.blk (Eo j) = some b → ∃ t g, τ[j]? = some (t, g) ∧ (st.obj t).2.blk (E t) = some b := by
    intro j b hb
    by_cases hj : j < os.length
    · obtain ⟨t, g, el, sz, ds, foc, f, h1, h2, h3, h4⟩ := hget j hj
      rw [hobo j el sz ds foc h2, hEo j t g h1, arr_blk] at hb
      exact ⟨t, g, h1, by rw [h4, arr_blk]; exact hb⟩
    · have : obo os j = (0, .none) := by simp [obo, List.getElem?_eq_none (Nat.le_of_not_lt hj)]
      rw [this] at hb; simp [AObj.blk] at hb
  have hap : ∀ j j' b, j ≠ j' → (obo os j).2.blk (Eo j) = some b → (obo os j').2.blk (Eo j') ≠ some b := by
    intro j j' b hne h1 h2
    obtain ⟨t, g, ht, hb⟩ := hblk j b h1
    obtain ⟨t', g', ht', hb'⟩ := hblk j' b h2
    refine hI.apart t t' b (fun e => hne ?_) hb hb'
    subst e
    exact nodup_spec hnd j j' t (by rw [List.getElem?_map, ht]; rfl) (by rw [List.getElem?_map, ht']; rfl)
  have hsl : ∀ j, j < os.length → ∃ a l k, Eo j = .slice a l k := by
    intro j hj
    obtain ⟨t, g, el, sz, ds, foc, f, h1, h2, h3, h4⟩ := hget j hj
    have hot := hI.obj t
    rw [h4] at hot
    obtain ⟨xs, _, hown, _⟩ := hot
    rw [hEo j t g h1]
    rcases hown.2 with ⟨he, _⟩ | ⟨b, cap, cur, he, _⟩ <;> exact ⟨_, _, _, he⟩
  have hfoc : ∀ (k el sz : Nat) (ds : List (List CV)) (m : Nat) (cs : List CV), os[k]? = some (el, sz, ds, some (m, cs)) → noRs cs = true ∧ ∀ (i j : Nat), cs[i]? = some (.ow j) → j < os.length := by
    intro k el sz ds m cs hk
    have hkl : k < os.length := (List.getElem?_eq_some_iff.1 hk).1
    obtain ⟨t, g, el', sz', ds', foc, f, h1, h2, h3, h4⟩ := hget k hkl
    rw [hk] at h2
    simp at h2
    obtain ⟨rfl, rfl, rfl, rfl⟩ := h2
    simp only [backF] at h3
    cases hbl : backL τ cs with
    | none => rw [hbl] at h3; simp at h3
    | some cs' =>
      obtain ⟨b1, b2⟩ := backL_spec hbl
      have hb : ∀ j c, cs[j]? = some c → ∃ c', backC τ c = some c' := fun j c hj => by
        have hjl : j < cs'.length := by rw [b1]; exact (List.getElem?_eq_some_iff.1 hj).1
        exact ⟨_, b2 j c _ hj (List.getElem?_eq_getElem hjl)⟩
      refine ⟨noRs_mk fun j c hj => ?_, fun i j hi => ?_⟩
      · obtain ⟨c', hc'⟩ := hb j c hj; exact (backC_rs hc').1
      · obtain ⟨c', hc'⟩ := hb i _ hi; rw [hol]; exact (backC_rs hc').2.1 j rfl
  have hfr : ∀ j b, (obo os j).2.blk (Eo j) = some b → ¬ S b := fun j b hb => by
    by_cases hj : j < os.length
    · obtain ⟨t, g, el, sz, ds, foc, f, h1, h2, h3, h4⟩ := hget j hj
      rw [hobo j el sz ds foc h2, hEo j t g h1, arr_blk] at hb
      exact hI.own t b (by rw [h4, arr_blk]; exact hb)
    · have : obo os j = (0, .none) := by unfold obo; rw [List.getElem?_eq_none (by omega)]
      rw [this] at hb
      simp [AObj.blk] at hb
  have agg : ∀ (cs ys : List CV) (vs : List Value), backL τ cs = some ys → ys.length = vs.length → (∀ (i : Nat) (c : CV) (v : Value), ys[i]? = some c → vs[i]? = some v → RepX Z w st.obj E c v) → (∀ (i : Nat) (c : CV), ys[i]? = some c → c.atom = true) →
      RepW Z (fun b => ¬ S b) w (.agg cs) os (.agg vs.toArray) := by
    intro cs ys vs hbl hl hrep hat
    obtain ⟨b1, b2⟩ := backL_spec hbl
    have hb : ∀ j c, cs[j]? = some c → ∃ c', ys[j]? = some c' ∧ backC τ c = some c' := fun j c hj => by
      have hjl : j < ys.length := by rw [b1]; exact (List.getElem?_eq_some_iff.1 hj).1
      exact ⟨_, List.getElem?_eq_getElem hjl, b2 j c _ hj (List.getElem?_eq_getElem hjl)⟩
    refine ⟨Eo, hobj, hap, hfr, hsl, hfoc, vs, noRs_mk fun j c hj => ?_, rfl, by omega, fun i c v h1 h2 => ?_, fun i c h1 => ?_, fun i j hi => ?_⟩
    · obtain ⟨c', _, hc'⟩ := hb j c hj; exact (backC_rs hc').1
    · obtain ⟨c', hy, hc'⟩ := hb i c h1; exact hcell c c' v hc' (hrep i c' v hy h2)
    · obtain ⟨c', hy, hc'⟩ := hb i c h1; rw [(backC_rs hc').2.2]; exact hat i c' hy
    · obtain ⟨c', _, hc'⟩ := hb i _ hi; rw [hol]; exact (backC_rs hc').2.1 j rfl
  split at hr
  · rename_i t j hrs
    cases hτ : τ[j]? with
    | none => rw [hτ] at hr; simp at hr
    | some p =>
      obtain ⟨t', g'⟩ := p
      rw [hτ] at hr
      simp at hr
      have henv := hI.env t
      rw [← hr] at henv
      have hj : j < os.length := by rw [hol]; exact (List.getElem?_eq_some_iff.1 hτ).1
      obtain ⟨t2, g2, el, sz, ds, foc, f, h1, h2, h3, h4⟩ := hget j hj
      rw [hτ] at h1
      simp at h1
      obtain ⟨rfl, rfl⟩ := h1
      refine ⟨a.tmps.getD t undef, results_one hrs rfl, Eo, hobj, hap, hfr, hsl, hfoc, ?_, hj⟩
      generalize a.tmps.getD t undef = y at henv
      cases henv with
      | rs _ _ _ _ _ hE => rw [hEo j t' g' hτ]; exact (hE _ _ _ _ h4).symm
  · rename_i t cs hrs
    cases hbl : backL τ cs with
    | none => rw [hbl] at hr; simp at hr
    | some ys =>
      rw [hbl] at hr
      simp at hr
      have henv := hI.env t
      rw [← hr] at henv
      refine ⟨a.tmps.getD t undef, results_one hrs rfl, ?_⟩
      generalize a.tmps.getD t undef = y at henv
      cases henv with
      | agx _ vs hl hrep ha => exact agg cs ys vs hbl hl hrep ha
  · rename_i y t cs hrs
    split at hr
    · rename_i i s g off hti he
      split at hr
      · rename_i g' ys ho
        obtain ⟨hb, hr⟩ := hr
        have := Nat.eq_of_beq_eq_true hb
        subst this
        obtain ⟨zs, hbl, hp⟩ := hr
        have henv := hI.env y
        rw [he] at henv
        obtain ⟨b, _, hx, f, hc⟩ := varx_cells hI ho henv
        obtain ⟨v, hv, hrep⟩ := run_partX (o := 0) (hT _ _ hti) (fun j c hj => by rw [Nat.zero_add]; exact hc j c hj) hp
        refine ⟨v, results_one hrs ?_, ?_⟩
        · simp only [Instr.loadAt, Instr.sureAddr, Sem.run_bind, Sem.run_pure, Result.andThen_ok, Nat.zero_add] at hv
          simp only [readRes, hx, asAddr, Sem.run_bind, Sem.run_pure, Result.andThen_ok, hv]
        · simp only [svOf] at hrep
          cases hn : noRs zs with
          | true =>
            rw [hn] at hrep
            cases hrep with
            | c _ _ hr =>
              cases hr with
              | agg _ vs hl hr ha => exact agg cs zs vs hbl hl (fun i c v h1 h2 => .cl (hr i c v h1 h2)) ha
          | false =>
            rw [hn] at hrep
            cases hrep with
            | agx _ vs hl hr ha => exact agg cs zs vs hbl hl hr ha
      · exact hr.elim
    · exact hr.elim
  · exact hr.elim

/-- A function meets its contract if its body's abstract weakest precondition holds. -/
theorem holds_of_wp (hT : TOk P T) (hm : P.follows .mixedOrders = true) {f : FuncId} {fn : Func} {code : Code} {args : List CV} {r : CV} (hf : P.funcs[f]? = some fn) (hname : (fn.name == "runtime.NumGoroutine") = false) (hb : fn.body = some code) (hn : args.length ≤ fn.ntmps)
    (h : wpA (orc P G) T fn.ntmps code (resOk T fn.results.toList r) (initSt args)) : Holds P G f args r := by
  refine ⟨⟨fn, hf, hname, by rw [hb]; rfl⟩, ?_⟩
  intro Z w vs hrep hz hgw
  refine calls_of_wp hf hb ?_
  have hvl : vs.length ≤ fn.ntmps := by rw [← hrep.1]; exact hn
  have hI : Inv G ⟨Z, fun _ => (0, .none), fun _ => undef⟩ w (fun k => k < w.heap.size) fn.ntmps Z (fun _ => undef) (initSt args) { tmps := vs.toArray ++ Array.replicate (fn.ntmps - vs.toArray.size) undef, defers := [] } w :=
    { gs := fun w' h => hgw w' h.below
      slt := fun _ h => h
      below := Kept.refl _ _
      defers := rfl
      sz := by simp; omega
      zlt := hz
      keeps := Keeps.refl _ _
      pin := PinKeep.refl _ _
      znew := fun _ _ h => .inl h
      env := fun t => by
        have hg : (vs.toArray ++ Array.replicate (fn.ntmps - vs.toArray.size) undef).getD t undef = vs.getD t undef := by
          rw [Array.getD_eq_getD_getElem?, Array.getElem?_append]
          split
          · simp [List.getD_eq_getElem?_getD]
          · rename_i hge
            simp at hge
            rw [Array.getElem?_replicate]
            rw [List.getD_eq_getElem?_getD, List.getElem?_eq_none hge]
            split <;> rfl
        rw [hg]
        exact init_rep args vs hrep t
      obj := fun t => trivial
      own := fun t b hb => by simp [initSt, AObj.blk] at hb
      apart := fun t t' b _ hb => by simp [initSt, AObj.blk] at hb }
  refine wpA_sound hT hm code (fun e Z' E' st' a' w' hk hI' => ?_) Z _ _ _ w hI h
  have fin : resFin T fn.results.toList r st' → ∃ v, (results fn a'.tmps).run P w' = .ok v w' ∧
      ∃ (x : Value) (Z'' : Zone), Ending.returned v = .returned x ∧ RepR Z'' (fun b => w.heap.size ≤ b) w' r x ∧ (∀ b o, Z b o → Z'' b o) ∧ (∀ b o, Z'' b o → (Z b o ∨ w.heap.size ≤ b) ∧ b < w'.heap.size) ∧ Below w.heap.size w w' := by
    have closed : ∀ v, (results fn a'.tmps).run P w' = .ok v w' → Rep (Zall Z' st'.obj E') w' r v → ∃ v, (results fn a'.tmps).run P w' = .ok v w' ∧
        ∃ (x : Value) (Z'' : Zone), Ending.returned v = .returned x ∧ RepR Z'' (fun b => w.heap.size ≤ b) w' r x ∧ (∀ b o, Z b o → Z'' b o) ∧ (∀ b o, Z'' b o → (Z b o ∨ w.heap.size ≤ b) ∧ b < w'.heap.size) ∧ Below w.heap.size w w' := by
      intro v hv hr
      refine ⟨v, hv, v, _, rfl, .mk hr, fun b o hz => .inl (hI'.z0 b o hz), fun b o hz => ?_, hI'.below.below⟩
      rcases hz with hz | ⟨s, hs⟩
      · exact ⟨(hI'.znew b o hz).imp id Nat.le_of_not_lt, hI'.zlt b o hz⟩
      · exact ⟨.inr (Nat.le_of_not_lt (hI'.own s b hs)), (hI'.obj s).lt hs⟩
    intro hfin
    clear hk
    unfold resFin at hfin
    rcases hfin with ⟨hp, hres⟩ | hres
    · obtain ⟨v, hv, hr⟩ := results_run hT hI' hres
      exact ⟨v, hv, v, Z', rfl, .mk hr, hI'.z0, fun b o hz => ⟨(hI'.znew b o hz).imp id Nat.le_of_not_lt, hI'.zlt b o hz⟩, hI'.below.below⟩
    · split at hres
      · rename_i r os
        obtain ⟨v, hv, hr⟩ := resW_run hT hI' hres
        exact ⟨v, hv, v, Z', rfl, hr.fr fun _ => Nat.le_of_not_lt, hI'.z0, fun b o hz => ⟨(hI'.znew b o hz).imp id Nat.le_of_not_lt, hI'.zlt b o hz⟩, hI'.below.below⟩
      · rename_i cs
        obtain ⟨vs, hvs, hrs, hl⟩ := resXs_run hT hI' _ _ hres.1
        exact closed _ (results_many hvs (by rw [← hrs.1, hl]; exact hres.2)) (.tup cs vs hrs.1 hrs.2)
      · split at hres
        · rename_i rv hrs
          obtain ⟨v, hv, hr⟩ := resX_run hT hI' hres
          exact closed v (results_one hrs hv) hr
        · exact hres.elim
  cases e with
  | normal => exact ⟨hI'.defers, fin hk⟩
  | ret => exact ⟨hI'.defers, fin hk⟩
  | exit id => exact hk.elim
  | goto l => exact hk.elim
  | panic ch => exact hk.elim
  | outgrown => exact hk.elim

theorem tok_nil (P : Program) : TOk P [] := fun t i h => by simp [Tab.get] at h
theorem tok_cons {P : Program} {t : Nat} {i : TI} {r : Tab} (h : TOk1 P t i) (hr : TOk P r) : TOk P ((t, i) :: r) := fun t' i' h' => by
  simp only [Tab.get] at h'
  cases hb : Nat.beq t t' with
  | true =>
    rw [hb] at h'
    simp only [cond_true, Option.some.injEq] at h'
    have := Nat.eq_of_beq_eq_true hb
    subst this; subst h'
    exact h
  | false => rw [hb] at h'; exact hr t' i' h'
end
end Go.Abs
