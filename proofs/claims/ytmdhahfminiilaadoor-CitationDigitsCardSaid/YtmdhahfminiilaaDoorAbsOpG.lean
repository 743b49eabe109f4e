import Derived.Test.YtmdhahfminiilaaDoorAbsOpF
import Derived.Laws.BytesArg
import Derived.WideLaws
set_option linter.unusedVariables false
set_option linter.unusedSimpArgs false
/-
  Bytes turned into a string.
-/
namespace Go.Abs
open Go Go.RowKit

section
variable {P : Program} {G : World → Prop}
def b2s (l : List Int) : Str := l.map fun n => UInt8.ofNat n.toNat
theorem eff_b2s {s t e : TypeId} (hs : P.underlying s = some (.slice e)) (he : P.underlying e = some (.int .u8)) (ht : P.underlying t = some .string) {l : List Int} {x : Operand} {ty : TypeId} :
    EffOp P G (.convert s t x) ty [.c (.sl 1 (l.map cInt_u8))] [] (.c (.v (.string ⟨⟨b2s l⟩⟩))) [] := by
  intro Z w Eo ac o next Q ho hty hg hzl hl hargs hgs hnext
  have hx : Rep Z w (.sl 1 (l.map cInt_u8)) (ac.eval x) := by
    have := hargs 0 (.c (.sl 1 (l.map cInt_u8))) x rfl rfl
    cases this with | c _ _ h => exact h
  have hrun : (convert s t (ac.eval x)).run P w = .ok (.string ⟨⟨b2s l⟩⟩) w := by
    generalize hds : l.map cInt_u8 = ds at hx
    generalize ac.eval x = v at hx
    cases hx with
    | nil _ a cap =>
      have hl0 : l = [] := by simpa using hds
      subst hl0
      cases a with
      | none => exact run_convert_bytes_nil w s e hs he 0 cap t ht
      | some a =>
        have h0 := run_loadCells_list (P := P) w a [] (fun j v hj => by simp at hj)
        rw [run_convert_bytes_string w s t e _ 0 cap hs he ht, run_bytesToString w _ 0 cap [] (by simpa using h0)]
        rfl
    | sl _ _ b o cap f hcap hsz hc hr =>
      have hlen : ds.length = l.length := by rw [← hds]; simp
      rw [hlen]
      refine run_convert_bytes_arg w s e hs he b o l.length cap l rfl (fun i hi => ?_) t ht
      have hd : ds[i]? = some (cInt_u8 l[i]) := by rw [← hds, List.getElem?_map, List.getElem?_eq_getElem hi]; rfl
      obtain ⟨_, h2, _⟩ := hc i 0 _ _ hd rfl
      have h3 := rep_v (hr i 0 _ _ hd rfl)
      rw [Nat.mul_one, Nat.add_zero, h3] at h2
      rw [h2]
      simp [List.getD_eq_getElem?_getD, hi]
  have hex : (execOp ac.eval o).run P w = .ok (.value (.string ⟨⟨b2s l⟩⟩)) w := by
    obtain ⟨dst, op, type, pos, after, guard⟩ := o
    simp only at ho
    subst ho
    simp only [execOp, Sem.run_bind, hrun, Result.andThen_ok, Sem.run_pure]
  exact wp_value hex (hnext _ Z w Eo (effpost_same hg hzl (.c _ _ (.v _))))
end
end Go.Abs

/-
  More operations: a boxed nil slice of the call's own; calls that hand a nil slice over; errors held against nil.
-/
namespace Go.Abs
open Go Go.RowKit

/-- Where an argument is the constant nil, it may be told so. -/
def nilArgs : List Operand → List SV → List SV → Prop
  | [], [], [] => True
  | x :: xs, s :: ss, s' :: ss' => (s' = s ∨ (x = .const (.slice none 0 0) ∧ s' = .c (.v (.slice none 0 0)))) ∧ nilArgs xs ss ss'
  | _, _, _ => False
theorem nilArgs_len : ∀ {xs : List Operand} {ss ss' : List SV}, nilArgs xs ss ss' → ss'.length = xs.length
  | [], [], [], _ => rfl
  | _ :: _, _ :: _, _ :: _, h => by simp [nilArgs_len h.2]
  | [], [], _ :: _, h => h.elim
  | [], _ :: _, _, h => h.elim
  | _ :: _, [], _, h => h.elim
  | _ :: _, _ :: _, [], h => h.elim
theorem nilArgs_get : ∀ {xs : List Operand} {ss ss' : List SV}, nilArgs xs ss ss' → ∀ {i : Nat} {s' : SV} {x : Operand}, ss'[i]? = some s' → xs[i]? = some x → ∃ s, ss[i]? = some s ∧ (s' = s ∨ (x = .const (.slice none 0 0) ∧ s' = .c (.v (.slice none 0 0))))
  | [], [], [], _, _, _, _, h, _ => by simp at h
  | _ :: _, s :: _, _ :: _, h, 0, _, _, h1, h2 => by
    simp at h1 h2
    subst h1; subst h2
    exact ⟨s, rfl, h.1⟩
  | _ :: _, _ :: _, _ :: _, h, i + 1, _, _, h1, h2 => by
    obtain ⟨s, q1, q2⟩ := nilArgs_get h.2 (by simpa using h1) (by simpa using h2)
    exact ⟨s, by simpa using q1, q2⟩
  | [], [], _ :: _, h, _, _, _, _, _ => h.elim
  | [], _ :: _, _, h, _, _, _, _, _ => h.elim
  | _ :: _, [], _, h, _, _, _, _, _ => h.elim
  | _ :: _, _ :: _, [], h, _, _, _, _, _ => h.elim

/-- An error: not nil, or nil. -/
def errC (b : Bool) : CV := bif b then .er else .v .nilIface
section
variable {P : Program} {G : World → Prop} {T : Tab}
theorem eff_boxS {t e : TypeId} {ie : TI} {x0 : Operand} (hsz : 0 < ie.size) {ty : TypeId} :
    EffOp P G (.box t x0) ty [.c (.v (.slice none 0 0))] [] (.pm 0 1 0) [(1, .varx [.rs 1 1]), (1, .arr e ie.size [] none)] := by
  intro Z w Eo ac o next Q ho hty hg hzl hl hargs hgs hnext
  have hx : ac.eval x0 = .slice none 0 0 := by
    have := hargs 0 _ x0 rfl rfl
    generalize ac.eval x0 = y at this
    cases this with
    | c _ _ h => cases h; rfl
  have hex : (execOp ac.eval o).run P w = .ok (.value (.pointer (some ⟨w.heap.size, 0, none⟩))) (w.alloc (.cells #[.slice none 0 0] t (0, 0))) := by
    obtain ⟨dst, op, type, pos, after, guard⟩ := o
    simp only at ho
    subst ho
    simp [execOp, Instr.box, newVar, newRow, hx, Value.cells]
  let Er : Nat → Value := fun j => if j = 0 then .pointer (some ⟨w.heap.size, 0, none⟩) else .slice none 0 0
  refine wp_value hex (hnext _ Z _ Er ?_)
  have hnew : (w.alloc (.cells #[.slice none 0 0] t (0, 0))).heap[w.heap.size]? = some (.cells #[.slice none 0 0] t (0, 0)) := (MapKept.heap_alloc w _).1
  have hblk : ∀ j b, (objL [(1, AObj.varx [.rs 1 1]), (1, .arr e ie.size [] none)] j).2.blk (Er j) b → j = 0 ∧ b = w.heap.size := fun j b hb => by
    rw [objL_two] at hb
    by_cases h0 : j = 0
    · subst h0; simp [Er, AObj.blk] at hb; exact ⟨rfl, hb.symm⟩
    · rw [if_neg h0] at hb
      by_cases h1 : j = 1
      · subst h1; simp [Er, AObj.blk] at hb
      · rw [if_neg h1] at hb; simp [AObj.blk] at hb
  exact
    { res := .pm 0 1 0 _ ⟨_, rfl⟩ (Nat.le_refl _) fun _ => ⟨w.heap.size, rfl, rfl⟩
      grp := ⟨fun j => by
          rw [objL_two]
          by_cases h0 : j = 0
          · subst h0
            rw [if_pos rfl]
            refine ⟨w.heap.size, t, #[.slice none 0 0], rfl, hnew, rfl, fun k c hk => ?_, fun o hz' => absurd (hzl _ _ hz') (Nat.lt_irrefl _), .none fun k c hk => by match k, hk with | 0, hk => simp at hk; subst hk; rfl | k + 1, hk => simp at hk⟩
            match k, hk with
            | 0, hk =>
              simp at hk
              subst hk
              exact ⟨rfl, _, rfl, .one (.rs 1 1 _ ⟨_, _, _, rfl⟩ (Nat.le_refl _) fun _ _ _ _ _ => rfl)⟩
            | k + 1, hk => simp at hk
          · rw [if_neg h0]
            by_cases h1 : j = 1
            · subst h1
              rw [if_pos rfl]
              refine ⟨[], hsz, World.ownsRow_nil _ _ _ _, And.intro (fun _ _ h => nomatch h) (fun i d h => by simp at h), fun i d hi => by simp at hi, fun i d hi => by simp at hi, fun b o hb => by simp [Er, Value.ownBlock] at hb⟩
            · rw [if_neg h1]; trivial,
        fun j j' b hne h1 h2 => hne ((hblk j b h1).1.trans (hblk j' b h2).1.symm)⟩
      keeps := Keeps.alloc hzl _
      zlt := fun b o hz => by have := hzl b o hz; simp; omega
      znew := fun _ _ h => .inl h
      kept := (Kept.refl _ _).alloc (fun _ h => h.1) _
      own := fun b ⟨j, hj⟩ => .inl (by have := (hblk j b hj).2; omega)
      ok :=
        { gen := fun t => by simp [objL]
          var := fun t g hg hlv => by
            obtain ⟨cs, hlv⟩ := hlv
            rw [objL_two] at hlv
            by_cases h0 : t = 0
            · rw [if_pos h0] at hlv; simp at hlv; simp [objL] at hg; omega
            · rw [if_neg h0] at hlv
              by_cases h1 : t = 1
              · rw [if_pos h1] at hlv; simp at hlv
              · rw [if_neg h1] at hlv; simp at hlv
          ext := fun t g K cs hg hlv => by
            rw [objL_two] at hlv
            by_cases h0 : t = 0
            · rw [if_pos h0] at hlv; simp at hlv
            · rw [if_neg h0] at hlv
              by_cases h1 : t = 1
              · rw [if_pos h1] at hlv; simp at hlv
              · rw [if_neg h1] at hlv; simp at hlv
          tok := fun t g el s hg hlv => by
            rw [objL_two] at hlv
            by_cases h0 : t = 0
            · rw [if_pos h0] at hlv; simp at hlv
            · rw [if_neg h0] at hlv
              by_cases h1 : t = 1
              · rw [if_pos h1] at hlv; simp at hlv
              · rw [if_neg h1] at hlv; simp at hlv
          arr := fun t g el sz ds foc hg hlv => by
            rw [objL_two] at hlv
            by_cases h0 : t = 0
            · rw [if_pos h0] at hlv; simp at hlv
            · rw [if_neg h0] at hlv
              by_cases h1 : t = 1
              · rw [if_pos h1] at hlv; simp at hlv; simp [objL] at hg; omega
              · rw [if_neg h1] at hlv; simp at hlv
          map := fun t g es hg hlv => by
            rw [objL_two] at hlv
            by_cases h0 : t = 0
            · rw [if_pos h0] at hlv; simp at hlv
            · rw [if_neg h0] at hlv
              by_cases h1 : t = 1
              · rw [if_pos h1] at hlv; simp at hlv
              · rw [if_neg h1] at hlv; simp at hlv } }
theorem eff_callN {c : Call} {ty : TypeId} {fo : Operand} (hc : c.callee = .value fo) {f : FuncId} {caps as as' : List SV} {os os' : List (Nat × AObj)} {r : SV} {fs : SV}
    (hfs : fs = .fnr (.fn f) caps ∨ ∃ cs : List CV, fs = .c (.fn f cs) ∧ caps = cs.map SV.c) (hna : nilArgs c.args.toList as as') (h : EffFn P G f (as' ++ caps) os r os') : EffOp P G (.call c) ty (fs :: as) os r os' := by
  obtain ⟨⟨fn, hfn, hnm, hbd⟩, h⟩ := h
  intro Z w Eo a o next Q ho hty hg hz hl hargs hgs hnext
  obtain ⟨dst, op, type, pos, after, guard⟩ := o
  simp only at ho hty
  subst ho
  subst hty
  have hops : (Op.call c).operands = #[fo] ++ c.args := by simp [Op.operands, Call.operands, hc]
  rw [hops] at hl hargs
  have hfv := hargs 0 fs fo rfl (by rw [Array.getElem?_append_left (Nat.zero_lt_one)]; rfl)
  have hcap : ∃ cv : List Value, a.eval fo = .func (.func f) #[] cv.toArray ∧ caps.length = cv.length ∧ ∀ (i : Nat) (s : SV) (x : Value), caps[i]? = some s → cv[i]? = some x → RepS Z w (objL os) Eo s x := by
    generalize a.eval fo = y at hfv
    rcases hfs with hfs | ⟨cs, hfs, hcs⟩
    · subst hfs
      cases hfv with
      | fnr _ _ vs _ hl hh => exact ⟨vs, rfl, hl, hh⟩
    · subst hfs
      subst hcs
      cases hfv with
      | c _ _ hr =>
        cases hr with
        | fn _ _ vs hl hh =>
          refine ⟨vs, rfl, by simpa using hl, fun i s x h1 h2 => ?_⟩
          rw [List.getElem?_map] at h1
          cases hk : cs[i]? with
          | none => rw [hk] at h1; simp at h1
          | some c0 => rw [hk] at h1; simp at h1; subst h1; exact .c _ _ (hh i c0 x hk h2)
  obtain ⟨cv, hcv, hcl, hcr⟩ := hcap
  have hal0 : as.length = c.args.toList.length := by simp at hl; simpa using (by omega : as.length = c.args.size)
  have hal : as'.length = c.args.toList.length := nilArgs_len hna
  have hcalls := h Z w Eo (c.args.toList.map a.eval ++ cv) hg hz (by simp; simp at hal; omega) (fun i s x h1 h2 => by
    rcases Nat.lt_or_ge i as'.length with hlt | hge
    · rw [List.getElem?_append_left hlt] at h1
      rw [List.getElem?_append_left (by simp; simp at hal; omega), List.getElem?_map] at h2
      cases hk : c.args.toList[i]? with
      | none => rw [hk] at h2; simp at h2
      | some op =>
        rw [hk] at h2; simp at h2; subst h2
        obtain ⟨s0, hs0, hsc⟩ := nilArgs_get hna h1 hk
        rcases hsc with rfl | ⟨rfl, rfl⟩
        · refine hargs (i + 1) s op (by simpa using hs0) ?_
          rw [Array.getElem?_append_right (by simp)]
          simpa using hk
        · exact .c _ _ (.v _)
    · rw [List.getElem?_append_right hge] at h1
      rw [List.getElem?_append_right (by simp; simp at hal; omega)] at h2
      simp only [List.length_map] at h2
      rw [← hal] at h2
      exact hcr _ s x h1 h2) hgs
  have hargsE : c.args.map a.eval ++ cv.toArray = ((c.args.toList.map a.eval) ++ cv).toArray := by
    apply Array.ext'
    simp
  have hrun : (execOp a.eval ⟨dst, .call c, type, pos, after, guard⟩).run P w = .ok (.enter f (c.args.toList.map a.eval ++ cv).toArray) w := by
    simp only [execOp, resolve, hc, Deferred.ofValue, hcv, invoke, callFunc, Sem.run_bind, Sem.run_pure, Result.andThen_ok, Array.empty_append, hargsE]
    have hnm' : ¬ (fn.name = "runtime.NumGoroutine") := by simpa using hnm
    have hbd' : ¬ (fn.body = none) := fun e => by rw [e] at hbd; cases hbd
    simp [Go.program, Sem.run, hfn, hnm', hbd']
  refine wpE_of_wp (fun _ h => nomatch h) ?_
  unfold Oper.wp
  rw [hrun]
  simp only [Oper.upon]
  refine hcalls.mono ?_
  rintro e w' ⟨x, Z', Eo', rfl, hp⟩
  exact hnext x Z' w' Eo' hp
theorem errC_val {Z : Zone} {w : World} {b : Bool} {x : Value} (h : Rep Z w (errC b) x) : (b = true ∧ ∃ t v, x = .iface t v) ∨ (b = false ∧ x = .nilIface) := by
  cases b with
  | true => cases h with | er t v => exact .inl ⟨rfl, t, v, rfl⟩
  | false => cases h; exact .inr ⟨rfl, rfl⟩
theorem guard_errn {t : TypeId} {x : Operand} {v : Value} (hv : (∃ u y, v = .iface u y) ∨ v = .nilIface) : eqGuard .neq t x (.const .nilIface) v .nilIface = pure () := by
  rcases hv with ⟨u, y, rfl⟩ | rfl <;> cases x <;> rfl
theorem eff_errn {t ty : TypeId} {x : Operand} {z : TypeId} {b : Bool} (ht : P.underlying t = some (.interface (P.methodsAt t))) : EffOp P G (.binOp .neq t x (.const .nilIface) z) ty [.c (errC b), .c (.v .nilIface)] [] (.c (.v (.bool b))) [] := by
  intro Z w Eo a o next Q ho hty hg hz hl hargs hgs hnext
  obtain ⟨dst, op, type, pos, after, guard⟩ := o
  simp only at ho hty
  subst ho
  have hx := hargs 0 _ x rfl rfl
  have hv : (b = true ∧ ∃ t v, a.eval x = .iface t v) ∨ (b = false ∧ a.eval x = .nilIface) := by
    generalize a.eval x = y at hx
    cases hx with
    | c _ _ h => exact errC_val h
  refine wp_value (x := .bool b) ?_ (hnext _ Z w Eo (effpost_same hg hz (.c _ _ (.v _))))
  have hc : a.eval (.const .nilIface) = .nilIface := rfl
  rcases hv with ⟨rfl, u, v, he⟩ | ⟨rfl, he⟩
  · simp only [execOp, he, hc, Sem.run_bind, guard_errn (t := t) (x := x) (.inl ⟨u, v, rfl⟩)]
    simp [run_neq_held_nil w t u v ht]
  · simp only [execOp, he, hc, Sem.run_bind, guard_errn (t := t) (x := x) (.inr rfl)]
    simp [run_neq_nil_nil w t ht]
end
end Go.Abs
