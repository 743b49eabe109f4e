/-
  Functions that are handed objects of the caller's own: contracts, calls, and how a body meets its contract.
-/
import Derived.Test.YtmcolhhmlpicaaaDoorAbsRec
namespace Go.Abs
open Go Go.RowKit

/-- The contract of a function that is handed objects of the caller's own, which come back. -/
def EffFn (P : Program) (G : World → Prop) (f : FuncId) (args : List SV) (os : List (Nat × AObj)) (r : SV) (os' : List (Nat × AObj)) : Prop :=
  HasBody P f ∧ ∀ (Z : Zone) (w : World) (Eo : Nat → Value) (vs : List Value), Grp Z w os Eo → (∀ b o, Z b o → b < w.heap.size) → args.length = vs.length →
    (∀ (i : Nat) (s : SV) (x : Value), args[i]? = some s → vs[i]? = some x → RepS Z w (objL os) Eo s x) → (∀ w', Kept (SG w os Eo) w w' → G w') →
    Calls P f vs.toArray w fun e w' => ∃ x Z' Eo', e = .returned x ∧ EffPost Z w os Eo Z' w' os' Eo' r x

def closeS : SV → SV := fun s => s
section
variable {P : Program} {G : World → Prop}
theorem eff_call {c : Call} {ty : TypeId} {fo : Operand} (hc : c.callee = .value fo) {f : FuncId} {caps as : List SV} {os os' : List (Nat × AObj)} {r : SV} {fs : SV}
    (hfs : fs = .fnr f caps ∨ ∃ cs : List CV, fs = .c (.fn f cs) ∧ caps = cs.map SV.c) (h : EffFn P G f (as ++ caps) os r os') : EffOp P G (.call c) ty (fs :: as) os r os' := by
  obtain ⟨⟨fn, hfn, hnm, hbd⟩, h⟩ := h
  intro Z w Eo a o next Q ho hty hg hz hl hargs hgs hnext
  obtain ⟨dst, op, type, pos, after, guard⟩ := o
  simp only at ho hty
  subst ho
  subst hty
  have hops : (Op.call c).operands = #[fo] ++ c.args := by simp [Op.operands, Call.operands, hc]
  rw [hops] at hl hargs
  have hfv := hargs 0 fs fo rfl (by rw [Array.getElem?_append_left (Nat.zero_lt_one)]; rfl)
  have hcap : ∃ cv : List Value, a.eval fo = .func (.func f) #[] cv.toArray ∧ caps.length = cv.length ∧ ∀ (i : Nat) (s : SV) (x : Value), caps[i]? = some s → cv[i]? = some x → RepS Z w (objL os) Eo s x := by
    generalize a.eval fo = y at hfv
    rcases hfs with hfs | ⟨cs, hfs, hcs⟩
    · subst hfs
      cases hfv with
      | fnr _ _ vs hl hh => exact ⟨vs, rfl, hl, hh⟩
    · subst hfs
      subst hcs
      cases hfv with
      | c _ _ hr =>
        cases hr with
        | fn _ _ vs hl hh =>
          refine ⟨vs, rfl, by simpa using hl, fun i s x h1 h2 => ?_⟩
          rw [List.getElem?_map] at h1
          cases hk : cs[i]? with
          | none => rw [hk] at h1; simp at h1
          | some c0 => rw [hk] at h1; simp at h1; subst h1; exact .c _ _ (hh i c0 x hk h2)
  obtain ⟨cv, hcv, hcl, hcr⟩ := hcap
  have hal : as.length = c.args.toList.length := by simp at hl; simpa using (by omega : as.length = c.args.size)
  have hcalls := h Z w Eo (c.args.toList.map a.eval ++ cv) hg hz (by simp; simp at hal; omega) (fun i s x h1 h2 => by
    rcases Nat.lt_or_ge i as.length with hlt | hge
    · rw [List.getElem?_append_left hlt] at h1
      rw [List.getElem?_append_left (by simp; simp at hal; omega), List.getElem?_map] at h2
      cases hk : c.args.toList[i]? with
      | none => rw [hk] at h2; simp at h2
      | some op =>
        rw [hk] at h2; simp at h2; subst h2
        refine hargs (i + 1) s op (by simpa using h1) ?_
        rw [Array.getElem?_append_right (by simp)]
        simpa using hk
    · rw [List.getElem?_append_right hge] at h1
      rw [List.getElem?_append_right (by simp; simp at hal; omega)] at h2
      simp only [List.length_map] at h2
      rw [← hal] at h2
      exact hcr _ s x h1 h2) hgs
  have hargsE : c.args.map a.eval ++ cv.toArray = ((c.args.toList.map a.eval) ++ cv).toArray := by
    apply Array.ext'
    simp
  have hrun : (execOp a.eval ⟨dst, .call c, type, pos, after, guard⟩).run P w = .ok (.enter f (c.args.toList.map a.eval ++ cv).toArray) w := by
    simp only [execOp, resolve, hc, Deferred.ofValue, hcv, invoke, callFunc, Sem.run_bind, Sem.run_pure, Result.andThen_ok, Array.empty_append, hargsE]
    have hnm' : ¬ (fn.name = "runtime.NumGoroutine") := by simpa using hnm
    have hbd' : ¬ (fn.body = none) := fun e => by rw [e] at hbd; cases hbd
    simp [Go.program, Sem.run, hfn, hnm', hbd']
  unfold Oper.wp
  rw [hrun]
  simp only [Oper.upon]
  refine hcalls.mono ?_
  rintro e w' ⟨x, Z', Eo', rfl, hp⟩
  exact hnext x Z' w' Eo' hp
end

/-- The sites of what is handed over, in the frame that is entered. -/
def obj0 : Objs := fun _ => (0, .none)
def initEnvS : List SV → Nat → SV
  | [], _ => .any
  | c :: _, 0 => c
  | _ :: r, t + 1 => initEnvS r t
def entrySt (args : List SV) (os : List (Nat × AObj)) : St := ⟨fun t => sBk obj0 0 65536 [] (initEnvS args t), upd obj0 (uBk obj0 0 65536 [] 0 os)⟩
def pinS (j : Nat) : Nat := sig 0 (65536 + j)
/-- What is told of an object that comes back: 0 if it lies where it lay. -/
def gam (γ : List Nat) (j : Nat) : Nat := γ.getD j 1
def gamOk (n : Nat) (ρ : List (Nat × Nat)) (γ : List Nat) : Bool :=
  (List.range ρ.length).all fun j => !(Nat.beq (gam γ j) 0) || (Nat.blt j n && (match ρ[j]? with | some (t, g) => Nat.beq t (pinS j) && Nat.beq g 0 | .none => false))
def clr : SV → SV
  | .kt => .c (.v (.bool true))
  | .kf => .c (.v (.bool false))
  | .ap _ _ sz es => .c (.sl sz es)
  | s => s
theorem clr_rep {Z : Zone} {w : World} {obj : Objs} {E : Nat → Value} {s : SV} {x : Value} (h : RepS Z w obj E s x) : RepS Z w obj E (clr s) x := by
  cases h with
  | kt => exact .c _ _ (.v _)
  | kf => exact .c _ _ (.v _)
  | ap _ _ _ _ _ h _ _ => exact .c _ _ h
  | any => exact .any _
  | un => exact .un
  | c _ _ h => exact .c _ _ h
  | pm t g off x hs hg h => exact .pm t g off x hs hg h
  | fnr f caps vs hl h => exact .fnr f caps vs hl h
  | rs t g x hs hg h => exact .rs t g x hs hg h
  | agx cs vs hl h ha => exact .agx cs vs hl h ha
  | pe t g n off x hg h => exact .pe t g n off x hg h
  | mr t g x hs hg h => exact .mr t g x hs hg h
def effRes (T : Tab) (st : St) (rs : List ResultVar) (ρ : List (Nat × Nat)) (γ : Nat → Nat) : Option SV :=
  match rs with
  | [.tmp t] => sTo ρ γ (clr (st.env t))
  | [.cell x t] => match T.get t, st.env x with
    | some i, .pm s g off => match st.obj s with
      | (g', .var cs) => bif Nat.beq g g' then (part i cs off).map SV.c else .none
      | _ => .none
    | _, _ => .none
  | rs => (resAll T st rs).map fun cs => .c (.tup cs)
def effFin (T : Tab) (rs : List ResultVar) (n : Nat) (r : SV) (os' : List (Nat × AObj)) (st : St) : Prop :=
  ∃ (ρ : List (Nat × Nat)) (γ : List Nat), (nodupS (ρ.map (·.1)) && Nat.ble n ρ.length && gamOk n ρ γ) = true ∧ osTo ρ (gam γ) st.obj 0 ρ = some os' ∧ effRes T st rs ρ (gam γ) = some r
def effOk (T : Tab) (rs : List ResultVar) (n : Nat) (r : SV) (os' : List (Nat × AObj)) (e : Exit) (st : St) : Prop :=
  match e with
  | .ret => effFin T rs n r os' st
  | .normal => effFin T rs n r os' st
  | _ => False

theorem pinS_pin (j : Nat) : Nat.blt (pinS j) PIN = false := by
  cases hb : Nat.blt (pinS j) PIN with
  | false => rfl
  | true =>
    have := blt_lt hb
    unfold pinS sig PIN at this
    omega
theorem bk0 (j : Nat) : bkS 0 65536 [] j = pinS j := rfl
theorem bkG0 (j k : Nat) : bkG obj0 0 65536 [] j k = k := by simp [bkG, obj0]
theorem pinS_inj {i j : Nat} (h : pinS i = pinS j) : i = j := by unfold pinS sig at h; omega
theorem nodup_pins : ∀ (os : List (Nat × AObj)) (k : Nat), nodupS ((uBk obj0 0 65536 [] k os).map (·.1)) = true
  | [], _ => rfl
  | (g, o) :: r, k => by
    simp only [uBk, List.map_cons, nodupS]
    have : List.any ((uBk obj0 0 65536 [] (k + 1) r).map (·.1)) (Nat.beq (bkS 0 65536 [] k)) = false := by
      rw [List.any_eq_false]
      intro x hx hb
      have he := Nat.eq_of_beq_eq_true hb
      obtain ⟨i, hi⟩ := List.mem_iff_getElem?.1 hx
      have hlt : i < r.length := by
        have := (List.getElem?_eq_some_iff.1 hi).1
        simp only [List.length_map] at this
        have hl : ∀ (os : List (Nat × AObj)) (k : Nat), (uBk obj0 0 65536 [] k os).length = os.length := by
          intro os
          induction os with
          | nil => intro k; rfl
          | cons p q ih => intro k; obtain ⟨a, b⟩ := p; simp [uBk, ih]
        rw [hl] at this
        exact this
      rw [uBk_sites r (k + 1) i hlt] at hi
      injection hi with hi
      rw [bk0] at hi he
      have := pinS_inj (he.trans hi.symm)
      omega
    rw [this]
    exact nodup_pins r (k + 1)

section
variable {P : Program} {G : World → Prop} {T : Tab}
theorem initS_rep {Z : Zone} {w : World} {obj : Objs} {E : Nat → Value} : ∀ (args : List SV) (vs : List Value) (k : Nat), args.length = vs.length → (∀ (i : Nat) (s : SV) (x : Value), args[i]? = some s → vs[i]? = some x → RepS Z w obj E s x) →
    ∀ t, RepS Z w obj E (initEnvS args t) ((vs ++ List.replicate k undef).getD t undef)
  | [], vs, k, hl, h, t => .any _
  | s :: r, [], k, hl, h, t => by simp at hl
  | s :: r, x :: vs, k, hl, h, 0 => h 0 s x rfl rfl
  | s :: r, x :: vs, k, hl, h, t + 1 => by
    simpa [initEnvS] using initS_rep r vs k (by simpa using hl) (fun i s x h1 h2 => h (i + 1) s x (by simpa using h1) (by simpa using h2)) t
theorem initS_lt {n : Nat} : ∀ (args : List SV), args.all (sLt n) = true → ∀ t, sLt n (initEnvS args t) = true
  | [], _, _ => rfl
  | s :: r, h, 0 => by simp only [List.all_cons, Bool.and_eq_true] at h; exact h.1
  | s :: r, h, t + 1 => by simp only [List.all_cons, Bool.and_eq_true] at h; exact initS_lt r h.2 t

theorem effn_of_wp (hT : TOk P T) (hm : P.follows .mixedOrders = true) {f : FuncId} {fn : Func} {code : Code} {args : List SV} {os os' : List (Nat × AObj)} {r : SV} (hf : P.funcs[f]? = some fn) (hname : (fn.name == "runtime.NumGoroutine") = false) (hb : fn.body = some code) (hn : args.length ≤ fn.ntmps)
    (hok : (os.all (fun o => oLt os.length o.2 && Nat.beq o.1 0) && args.all (sLt os.length)) = true)
    (h : wpA (orc P G) T fn.ntmps code (effOk T fn.results.toList os.length r os') (entrySt args os)) : EffFn P G f args os r os' := by
  refine ⟨⟨fn, hf, hname, by rw [hb]; rfl⟩, ?_⟩
  intro Z w Eo vs hg hz hl hargs hgs
  simp only [Bool.and_eq_true] at hok
  obtain ⟨hos, has⟩ := hok
  have hosg : ∀ j g o, os[j]? = some (g, o) → oLt os.length o = true ∧ g = 0 := fun j g o hj => by
    have := all_get hos hj
    simp only [Bool.and_eq_true] at this
    exact ⟨this.1, Nat.eq_of_beq_eq_true this.2⟩
  have hgen0 : ∀ j, (objL os j).1 = 0 := fun j => by
    unfold objL
    cases hj : os[j]? with
    | none => rfl
    | some p => exact (hosg j p.1 p.2 hj).2
  let E0 : Nat → Value := fun s => Eo (s / 65536 - 65536)
  have hE0 : ∀ j, E0 (pinS j) = Eo j := fun j => by
    have : pinS j / 65536 - 65536 = j := by unfold pinS sig; omega
    simp only [E0, this]
  let ob : Objs := upd obj0 (uBk obj0 0 65536 [] 0 os)
  have hob : ∀ j g o, os[j]? = some (g, o) → ob (pinS j) = (g, oBk obj0 0 65536 [] o) := fun j g o hj => by
    have := upd_uBk_at (obj0 := obj0) os 0 j g o (nodup_pins os 0) hj
    rw [Nat.zero_add, bk0, bkG0] at this
    exact this
  have hobn : ∀ s, (∀ j, j < os.length → s ≠ pinS j) → ob s = (0, .none) := fun s hs => by
    have := upd_uBk_ne (obj := obj0) (d := 0) (off := 65536) (τ := []) (obj0 := obj0) os 0 s (fun j hj => by rw [Nat.zero_add, bk0]; exact hs j hj)
    exact this
  have hcase : ∀ s, (∃ j, j < os.length ∧ s = pinS j) ∨ ob s = (0, .none) := fun s => by
    by_cases hs : ∃ j, j < os.length ∧ s = pinS j
    · exact .inl hs
    · exact .inr (hobn s fun j hj e => hs ⟨j, hj, e⟩)
  have B : Back obj0 0 65536 [] os Eo ob E0 := ⟨fun j g o hj => ⟨by rw [bk0, bkG0]; exact hob j g o hj, by rw [bk0]; exact hE0 j⟩⟩
  have hblk : ∀ s b, (ob s).2.blk (E0 s) = some b → ∃ j, s = pinS j ∧ (objL os j).2.blk (Eo j) = some b := fun s b hb => by
    rcases hcase s with ⟨j, hj, rfl⟩ | hs
    · refine ⟨j, rfl, ?_⟩
      have hoj : os[j]? = some (os[j].1, os[j].2) := List.getElem?_eq_getElem hj
      rw [hob j _ _ hoj, hE0, oBk_blk] at hb
      unfold objL
      rw [hoj]
      exact hb
    · rw [hs] at hb; simp [AObj.blk] at hb
  refine calls_of_wp hf hb ?_
  have hvl : vs.length ≤ fn.ntmps := by rw [← hl]; exact hn
  have hI : Inv G ⟨Z, ob, E0⟩ w (SG w os Eo) fn.ntmps Z E0 (entrySt args os) { tmps := vs.toArray ++ Array.replicate (fn.ntmps - vs.toArray.size) undef, defers := [] } w :=
    { gs := hgs
      slt := fun _ h => h.1
      below := Kept.refl _ _
      defers := rfl
      sz := by simp; omega
      zlt := hz
      keeps := Keeps.refl _ _
      pin := PinKeep.refl _ _
      znew := fun _ _ h => .inl h
      env := fun t => by
        show RepS Z w ob E0 (sBk obj0 0 65536 [] (initEnvS args t)) _
        have he : (vs.toArray ++ Array.replicate (fn.ntmps - vs.toArray.size) undef) = (vs ++ List.replicate (fn.ntmps - vs.length) undef).toArray := by
          apply Array.ext'
          simp
        simp only [he]
        have hg' : (vs ++ List.replicate (fn.ntmps - vs.length) undef).toArray.getD t undef = (vs ++ List.replicate (fn.ntmps - vs.length) undef).getD t undef := by
          simp [Array.getD_eq_getD_getElem?, List.getD_eq_getElem?_getD]
        rw [hg']
        exact (initS_rep args vs _ hl hargs t).back B (initS_lt args has t)
      obj := fun s => by
        show ObjOk Z w ob E0 (E0 s) (ob s).2
        rcases hcase s with ⟨j, hj, rfl⟩ | hs
        · have hoj : os[j]? = some (os[j].1, os[j].2) := List.getElem?_eq_getElem hj
          rw [hob j _ _ hoj, hE0]
          have := hg.ok j
          unfold objL at this
          rw [hoj] at this
          exact this.back B (hosg j _ _ hoj).1
        · rw [hs]; trivial
      own := fun s b hb => by
        obtain ⟨j, _, hj⟩ := hblk s b hb
        exact fun h => h.2 ⟨j, hj⟩
      apart := fun s s' b hne h1 h2 => by
        obtain ⟨j, e1, hj⟩ := hblk s b h1
        obtain ⟨j', e2, hj'⟩ := hblk s' b h2
        exact hg.apart j j' b (fun e => hne (by rw [e1, e2, e])) hj hj' }
  refine wpA_sound hT hm code (fun e Z' E' st' a' w' hk hI' => ?_) Z _ _ _ w hI h
  have fin : effFin T fn.results.toList os.length r os' st' → ∃ v, (results fn a'.tmps).run P w' = .ok v w' ∧ ∃ x Z'' Eo', Ending.returned v = .returned x ∧ EffPost Z w os Eo Z'' w' os' Eo' r x := by
    rintro ⟨ρ, γ, hchk, hosT, hres⟩
    simp only [Bool.and_eq_true] at hchk
    obtain ⟨⟨hnd, hlen⟩, hgam⟩ := hchk
    have hlen := Nat.le_of_ble_eq_true hlen
    obtain ⟨hol, hoa⟩ := osTo_spec hosT
    let Er : Nat → Value := fun j => match ρ[j]? with | some (t, _) => E' t | none => undef
    have hEr : ∀ j t g, ρ[j]? = some (t, g) → Er j = E' t := fun j t g h => by simp only [Er, h]
    have M : Match ρ (gam γ) st'.obj E' (objL os') Er := ⟨fun j t g hj => by
      obtain ⟨h1, o', h2, h3⟩ := hoa j t g hj
      rw [Nat.zero_add] at h3
      exact ⟨h1, o', h2, by unfold objL; rw [h3], hEr j t g hj⟩⟩
    have hnone : ∀ j, ρ[j]? = none → objL os' j = (0, .none) := fun j hj => by
      have : os'[j]? = none := List.getElem?_eq_none (by rw [hol]; exact List.getElem?_eq_none_iff.1 hj)
      unfold objL; rw [this]
    have hb' : ∀ j b, (objL os' j).2.blk (Er j) = some b → ∃ t g, ρ[j]? = some (t, g) ∧ (st'.obj t).2.blk (E' t) = some b := fun j b hb => by
      cases hj : ρ[j]? with
      | none => rw [hnone j hj] at hb; simp [AObj.blk] at hb
      | some p =>
        obtain ⟨t, g⟩ := p
        obtain ⟨h1, o', h2, h3, h4⟩ := M.at_ j t g hj
        rw [h3, h4, oTo_blk h2] at hb
        exact ⟨t, g, rfl, hb⟩
    -- what is of generation 0 lies where it lay
    have hpin : ∀ j o, objL os' j = (0, o) → o ≠ .none → j < os.length ∧ ρ[j]? = some (pinS j, 0) ∧ Er j = E' (pinS j) ∧ (st'.obj (pinS j)).1 = 0 ∧ oTo ρ (gam γ) (st'.obj (pinS j)).2 = some o := fun j o ho hne => by
      cases hj : ρ[j]? with
      | none => rw [hnone j hj] at ho; simp at ho; exact absurd ho.symm hne
      | some p =>
        obtain ⟨t, g⟩ := p
        obtain ⟨h1, o', h2, h3, h4⟩ := M.at_ j t g hj
        rw [h3] at ho
        simp only [Prod.mk.injEq] at ho
        obtain ⟨hg0, rfl⟩ := ho
        have hc := List.all_eq_true.1 hgam j (List.mem_range.2 (List.getElem?_eq_some_iff.1 hj).1)
        rw [hg0, hj] at hc
        simp only [Nat.beq_refl, Bool.not_true, Bool.false_or, Bool.and_eq_true] at hc
        have e1 := Nat.eq_of_beq_eq_true hc.2.1
        have e2 := Nat.eq_of_beq_eq_true hc.2.2
        subst e1; subst e2
        exact ⟨blt_lt hc.1, rfl, h4, h1, h2⟩
    have hpost : ∀ x, RepS Z' w' (objL os') Er r x → EffPost Z w os Eo Z' w' os' Er r x := fun x hx =>
      { res := hx
        grp := ⟨fun j => by
            cases hj : ρ[j]? with
            | none => rw [hnone j hj]; trivial
            | some p =>
              obtain ⟨t, g⟩ := p
              obtain ⟨h1, o', h2, h3, h4⟩ := M.at_ j t g hj
              rw [h3, h4]
              exact (hI'.obj t).to M h2,
          fun j j' b hne h1 h2 => by
            obtain ⟨t, g, q1, q2⟩ := hb' j b h1
            obtain ⟨t', g', q3, q4⟩ := hb' j' b h2
            refine hI'.apart t t' b (fun e => hne ?_) q2 q4
            refine nodupS_spec hnd j j' t ?_ ?_
            · rw [List.getElem?_map, q1]; rfl
            · rw [List.getElem?_map, q3, e]; rfl⟩
        keeps := hI'.keeps
        zlt := hI'.zlt
        znew := fun b o hz => by
          rcases hI'.znew b o hz with h | h
          · exact .inl h
          · by_cases hlt : b < w.heap.size
            · by_cases hgb : GB os Eo b
              · exact .inr (.inr hgb)
              · exact absurd ⟨hlt, hgb⟩ h
            · exact .inr (.inl (Nat.le_of_not_lt hlt))
        kept := hI'.below
        own := fun b ⟨j, hj⟩ => by
          obtain ⟨t, g, q1, q2⟩ := hb' j b hj
          have h := hI'.own t b q2
          by_cases hlt : b < w.heap.size
          · by_cases hgb : GB os Eo b
            · exact .inr hgb
            · exact absurd ⟨hlt, hgb⟩ h
          · exact .inl (Nat.le_of_not_lt hlt)
        ok :=
          { gen := fun t => by rw [hgen0]; exact Nat.zero_le _
            var := fun t g hg hl => by
              rw [hgen0] at hg
              have : g = 0 := Nat.le_zero.1 hg
              subst this
              obtain ⟨cs, hl⟩ := hl
              have : ∃ o, objL os' t = (0, o) ∧ o ≠ .none ∧ (o = .var cs ∨ o = .ro cs ∨ o = .varx cs) := by
                rcases hl with h | h | h
                · exact ⟨_, h, by simp, .inl rfl⟩
                · exact ⟨_, h, by simp, .inr (.inl rfl)⟩
                · exact ⟨_, h, by simp, .inr (.inr rfl)⟩
              obtain ⟨o, q1, q2, q3⟩ := this
              obtain ⟨p1, p2, p3, p4, p5⟩ := hpin t o q1 q2
              obtain ⟨cs0, q6⟩ := oTo_var p5 q3
              have hlv : live st'.obj (pinS t) 0 := by
                refine ⟨cs0, ?_⟩
                rcases q6 with h | h | h
                · exact .inl (Prod.ext p4 h)
                · exact .inr (.inl (Prod.ext p4 h))
                · exact .inr (.inr (Prod.ext p4 h))
              obtain ⟨r1, r2⟩ := hI'.pin.var _ (pinS_pin t) hlv
              refine ⟨?_, by rw [p3, r2]; exact hE0 t⟩
              have := B.live (k := 0) p1 (by rw [bk0, bkG0]; exact r1)
              exact this
            tok := fun t g el s hg hl => by
              rw [hgen0] at hg
              have : g = 0 := Nat.le_zero.1 hg
              subst this
              obtain ⟨p1, p2, p3, p4, p5⟩ := hpin t _ hl (by simp)
              obtain ⟨r1, r2⟩ := hI'.pin.tok _ el s (pinS_pin t) (Prod.ext p4 (oTo_tok p5 rfl))
              exact ⟨B.tok p1 (by rw [bk0, bkG0]; exact r1), by rw [p3, r2]; exact hE0 t⟩
            arr := fun t g el sz ds foc hg hl => by
              rw [hgen0] at hg
              have : g = 0 := Nat.le_zero.1 hg
              subst this
              obtain ⟨p1, p2, p3, p4, p5⟩ := hpin t _ hl (by simp)
              obtain ⟨f0, q6⟩ := oTo_arr p5 rfl
              obtain ⟨⟨ds1, f1, r1⟩, r2⟩ := hI'.pin.arr _ el sz ds f0 (pinS_pin t) (Prod.ext p4 q6)
              obtain ⟨f2, r3⟩ := B.arr p1 (by rw [bk0, bkG0]; exact r1)
              exact ⟨⟨ds1, f2, r3⟩, by rw [p3, r2]; exact hE0 t⟩
            map := fun t g es hg hl => by
              rw [hgen0] at hg
              have : g = 0 := Nat.le_zero.1 hg
              subst this
              obtain ⟨p1, p2, p3, p4, p5⟩ := hpin t _ hl (by simp)
              obtain ⟨⟨es0, r1⟩, r2⟩ := hI'.pin.map _ es (pinS_pin t) (Prod.ext p4 (oTo_map p5 rfl))
              exact ⟨⟨es0, B.map p1 (by rw [bk0, bkG0]; exact r1)⟩, by rw [p3, r2]; exact hE0 t⟩ } }
    have closed : ∀ (v : Value) (c : CV), (results fn a'.tmps).run P w' = .ok v w' → Rep Z' w' c v → r = .c c → ∃ v, (results fn a'.tmps).run P w' = .ok v w' ∧ ∃ x Z'' Eo', Ending.returned v = .returned x ∧ EffPost Z w os Eo Z'' w' os' Eo' r x :=
      fun v c hv hr he => ⟨v, hv, v, Z', Er, rfl, hpost v (he ▸ .c _ _ hr)⟩
    unfold effRes at hres
    split at hres
    · rename_i t hrs
      refine ⟨a'.tmps.getD t undef, results_one hrs rfl, _, Z', Er, rfl, hpost _ ((clr_rep (hI'.env t)).to M hres)⟩
    · rename_i x t hrs
      have hv : ∃ c, r = .c c ∧ resC T st' (.cell x t) = some c := by
        clear closed hpost hk h
        simp only [resC]
        split at hres
        · rename_i i s g off hT' hpm
          rw [hT', hpm]
          split at hres
          · rename_i g' cs hob'
            simp only [hob']
            cases hbq : Nat.beq g g' with
            | true =>
              rw [hbq] at hres
              simp only [cond_true] at hres ⊢
              cases hp : part i cs off with
              | none => rw [hp] at hres; simp at hres
              | some c => rw [hp] at hres; simp at hres; exact ⟨c, hres.symm, rfl⟩
            | false => rw [hbq] at hres; simp at hres
          · simp at hres
        · simp at hres
      obtain ⟨c, hrc, hv⟩ := hv
      obtain ⟨v, hv', hr⟩ := results_run hT hI' (r := c) (by rw [hrs]; exact hv)
      exact closed v c hv' hr hrc
    · rename_i hne1 hne2
      cases ha : resAll T st' fn.results.toList with
      | none => rw [ha] at hres; simp at hres
      | some cs =>
        rw [ha] at hres
        simp at hres
        have hv : resVal T st' fn.results.toList = some (.tup cs) := by
          unfold resVal
          split
          · rename_i x hx
            cases x with
            | tmp t => exact absurd hx (hne1 t)
            | cell y t => exact absurd hx (hne2 y t)
          · rw [ha]; rfl
        obtain ⟨v, hv', hr⟩ := results_run hT hI' hv
        exact closed v _ hv' hr hres.symm
  cases e with
  | normal => exact ⟨hI'.defers, fin hk⟩
  | ret => exact ⟨hI'.defers, fin hk⟩
  | exit id => exact hk.elim
  | goto l => exact hk.elim
  | panic ch => exact hk.elim
  | outgrown => exact hk.elim
theorem effn_of_wq (hT : TOk P T) (hm : P.follows .mixedOrders = true) {f : FuncId} {fn : Func} {code : Code} {args : List SV} {os os' : List (Nat × AObj)} {r : SV} (hf : P.funcs[f]? = some fn) (hname : (fn.name == "runtime.NumGoroutine") = false) (hb : fn.body = some code) (hn : args.length ≤ fn.ntmps)
    (hok : (os.all (fun o => oLt os.length o.2 && Nat.beq o.1 0) && args.all (sLt os.length)) = true)
    (h : wqA (orc P G) T fn.ntmps code (effOk T fn.results.toList os.length r os') (entrySt args os)) : EffFn P G f args os r os' := by
  rw [wqA_eq] at h
  exact effn_of_wp hT hm hf hname hb hn hok h
end
end Go.Abs
