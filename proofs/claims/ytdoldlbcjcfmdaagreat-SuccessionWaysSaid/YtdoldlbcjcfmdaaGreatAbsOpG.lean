import Derived.Test.YtdoldlbcjcfmdaaGreatAbsOpF
import Derived.Laws.BytesArg
import Derived.WideLaws
set_option linter.unusedVariables false
set_option linter.unusedSimpArgs false
/-
  Bytes turned into a string.
-/
namespace Go.Abs
open Go Go.RowKit

section
variable {P : Program} {G : World → Prop}
end
end Go.Abs

/-
  More operations: a boxed nil slice of the call's own; calls that hand a nil slice over; errors held against nil.
-/
namespace Go.Abs
open Go Go.RowKit

/-- Where an argument is the constant nil, it may be told so. -/
def nilArgs : List Operand → List SV → List SV → Prop
  | [], [], [] => True
  | x :: xs, s :: ss, s' :: ss' => (s' = s ∨ (x = .const (.slice none 0 0) ∧ s' = .c (.v (.slice none 0 0)))) ∧ nilArgs xs ss ss'
  | _, _, _ => False
theorem nilArgs_len : ∀ {xs : List Operand} {ss ss' : List SV}, nilArgs xs ss ss' → ss'.length = xs.length
  | [], [], [], _ => rfl
  | _ :: _, _ :: _, _ :: _, h => by simp [nilArgs_len h.2]
  | [], [], _ :: _, h => h.elim
  | [], _ :: _, _, h => h.elim
  | _ :: _, [], _, h => h.elim
  | _ :: _, _ :: _, [], h => h.elim
theorem nilArgs_get : ∀ {xs : List Operand} {ss ss' : List SV}, nilArgs xs ss ss' → ∀ {i : Nat} {s' : SV} {x : Operand}, ss'[i]? = some s' → xs[i]? = some x → ∃ s, ss[i]? = some s ∧ (s' = s ∨ (x = .const (.slice none 0 0) ∧ s' = .c (.v (.slice none 0 0))))
  | [], [], [], _, _, _, _, h, _ => by simp at h
  | _ :: _, s :: _, _ :: _, h, 0, _, _, h1, h2 => by
    simp at h1 h2
    subst h1; subst h2
    exact ⟨s, rfl, h.1⟩
  | _ :: _, _ :: _, _ :: _, h, i + 1, _, _, h1, h2 => by
    obtain ⟨s, q1, q2⟩ := nilArgs_get h.2 (by simpa using h1) (by simpa using h2)
    exact ⟨s, by simpa using q1, q2⟩
  | [], [], _ :: _, h, _, _, _, _, _ => h.elim
  | [], _ :: _, _, h, _, _, _, _, _ => h.elim
  | _ :: _, [], _, h, _, _, _, _, _ => h.elim
  | _ :: _, _ :: _, [], h, _, _, _, _, _ => h.elim

section
variable {P : Program} {G : World → Prop} {T : Tab}
theorem eff_callN {c : Call} {ty : TypeId} {fo : Operand} (hc : c.callee = .value fo) {f : FuncId} {caps as as' : List SV} {os os' : List (Nat × AObj)} {r : SV} {fs : SV}
    (hfs : fs = .fnr (.fn f) caps ∨ ∃ cs : List CV, fs = .c (.fn f cs) ∧ caps = cs.map SV.c) (hna : nilArgs c.args.toList as as') (h : EffFn P G f (as' ++ caps) os r os') : EffOp P G (.call c) ty (fs :: as) os r os' := by
  obtain ⟨⟨fn, hfn, hnm, hbd⟩, h⟩ := h
  intro Z w Eo a o next Q ho hty hg hz hl hargs hgs hnext
  obtain ⟨dst, op, type, pos, after, guard⟩ := o
  simp only at ho hty
  subst ho
  subst hty
  have hops : (Op.call c).operands = #[fo] ++ c.args := by simp [Op.operands, Call.operands, hc]
  rw [hops] at hl hargs
  have hfv := hargs 0 fs fo rfl (by rw [Array.getElem?_append_left (Nat.zero_lt_one)]; rfl)
  have hcap : ∃ cv : List Value, a.eval fo = .func (.func f) #[] cv.toArray ∧ caps.length = cv.length ∧ ∀ (i : Nat) (s : SV) (x : Value), caps[i]? = some s → cv[i]? = some x → RepS Z w (objL os) Eo s x := by
    generalize a.eval fo = y at hfv
    rcases hfs with hfs | ⟨cs, hfs, hcs⟩
    · subst hfs
      cases hfv with
      | fnr _ _ vs _ hl hh => exact ⟨vs, rfl, hl, hh⟩
    · subst hfs
      subst hcs
      cases hfv with
      | c _ _ hr =>
        cases hr with
        | fn _ _ vs hl hh =>
          refine ⟨vs, rfl, by simpa using hl, fun i s x h1 h2 => ?_⟩
          rw [List.getElem?_map] at h1
          cases hk : cs[i]? with
          | none => rw [hk] at h1; simp at h1
          | some c0 => rw [hk] at h1; simp at h1; subst h1; exact .c _ _ (hh i c0 x hk h2)
  obtain ⟨cv, hcv, hcl, hcr⟩ := hcap
  have hal0 : as.length = c.args.toList.length := by simp at hl; simpa using (by omega : as.length = c.args.size)
  have hal : as'.length = c.args.toList.length := nilArgs_len hna
  have hcalls := h Z w Eo (c.args.toList.map a.eval ++ cv) hg hz (by simp; simp at hal; omega) (fun i s x h1 h2 => by
    rcases Nat.lt_or_ge i as'.length with hlt | hge
    · rw [List.getElem?_append_left hlt] at h1
      rw [List.getElem?_append_left (by simp; simp at hal; omega), List.getElem?_map] at h2
      cases hk : c.args.toList[i]? with
      | none => rw [hk] at h2; simp at h2
      | some op =>
        rw [hk] at h2; simp at h2; subst h2
        obtain ⟨s0, hs0, hsc⟩ := nilArgs_get hna h1 hk
        rcases hsc with rfl | ⟨rfl, rfl⟩
        · refine hargs (i + 1) s op (by simpa using hs0) ?_
          rw [Array.getElem?_append_right (by simp)]
          simpa using hk
        · exact .c _ _ (.v _)
    · rw [List.getElem?_append_right hge] at h1
      rw [List.getElem?_append_right (by simp; simp at hal; omega)] at h2
      simp only [List.length_map] at h2
      rw [← hal] at h2
      exact hcr _ s x h1 h2) hgs
  have hargsE : c.args.map a.eval ++ cv.toArray = ((c.args.toList.map a.eval) ++ cv).toArray := by
    apply Array.ext'
    simp
  have hrun : (execOp a.eval ⟨dst, .call c, type, pos, after, guard⟩).run P w = .ok (.enter f (c.args.toList.map a.eval ++ cv).toArray) w := by
    simp only [execOp, resolve, hc, Deferred.ofValue, hcv, invoke, callFunc, Sem.run_bind, Sem.run_pure, Result.andThen_ok, Array.empty_append, hargsE]
    have hnm' : ¬ (fn.name = "runtime.NumGoroutine") := by simpa using hnm
    have hbd' : ¬ (fn.body = none) := fun e => by rw [e] at hbd; cases hbd
    simp [Go.program, Sem.run, hfn, hnm', hbd']
  refine wpE_of_wp (fun _ h => nomatch h) ?_
  unfold Oper.wp
  rw [hrun]
  simp only [Oper.upon]
  refine hcalls.mono ?_
  rintro e w' ⟨x, Z', Eo', rfl, hp⟩
  exact hnext x Z' w' Eo' hp
end
end Go.Abs
