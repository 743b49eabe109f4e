import Derived.Test.YtmdhahfminiilaaDoorAbsPre
import Derived.MapKept
import Derived.Laws.StructEq
set_option linter.unusedVariables false
set_option linter.unusedSimpArgs false
/-
  Functions that are handed objects of the caller's own: contracts, calls, and how a body meets its contract.
-/
namespace Go.Abs
open Go Go.RowKit

def closeS : SV → SV := fun s => s
section
variable {P : Program} {G : World → Prop}
theorem eff_call {c : Call} {ty : TypeId} {fo : Operand} (hc : c.callee = .value fo) {f : FuncId} {caps as : List SV} {os os' : List (Nat × AObj)} {r : SV} {fs : SV}
    (hfs : fs = .fnr (.fn f) caps ∨ ∃ cs : List CV, fs = .c (.fn f cs) ∧ caps = cs.map SV.c) (h : EffFn P G f (as ++ caps) os r os') : EffOp P G (.call c) ty (fs :: as) os r os' := by
  obtain ⟨⟨fn, hfn, hnm, hbd⟩, h⟩ := h
  intro Z w Eo a o next Q ho hty hg hz hl hargs hgs hnext
  obtain ⟨dst, op, type, pos, after, guard⟩ := o
  simp only at ho hty
  subst ho
  subst hty
  have hops : (Op.call c).operands = #[fo] ++ c.args := by simp [Op.operands, Call.operands, hc]
  rw [hops] at hl hargs
  have hfv := hargs 0 fs fo rfl (by rw [Array.getElem?_append_left (Nat.zero_lt_one)]; rfl)
  have hcap : ∃ cv : List Value, a.eval fo = .func (.func f) #[] cv.toArray ∧ caps.length = cv.length ∧ ∀ (i : Nat) (s : SV) (x : Value), caps[i]? = some s → cv[i]? = some x → RepS Z w (objL os) Eo s x := by
    generalize a.eval fo = y at hfv
    rcases hfs with hfs | ⟨cs, hfs, hcs⟩
    · subst hfs
      cases hfv with
      | fnr _ _ vs _ hl hh => exact ⟨vs, rfl, hl, hh⟩
    · subst hfs
      subst hcs
      cases hfv with
      | c _ _ hr =>
        cases hr with
        | fn _ _ vs hl hh =>
          refine ⟨vs, rfl, by simpa using hl, fun i s x h1 h2 => ?_⟩
          rw [List.getElem?_map] at h1
          cases hk : cs[i]? with
          | none => rw [hk] at h1; simp at h1
          | some c0 => rw [hk] at h1; simp at h1; subst h1; exact .c _ _ (hh i c0 x hk h2)
  obtain ⟨cv, hcv, hcl, hcr⟩ := hcap
  have hal : as.length = c.args.toList.length := by simp at hl; simpa using (by omega : as.length = c.args.size)
  have hcalls := h Z w Eo (c.args.toList.map a.eval ++ cv) hg hz (by simp; simp at hal; omega) (fun i s x h1 h2 => by
    rcases Nat.lt_or_ge i as.length with hlt | hge
    · rw [List.getElem?_append_left hlt] at h1
      rw [List.getElem?_append_left (by simp; simp at hal; omega), List.getElem?_map] at h2
      cases hk : c.args.toList[i]? with
      | none => rw [hk] at h2; simp at h2
      | some op =>
        rw [hk] at h2; simp at h2; subst h2
        refine hargs (i + 1) s op (by simpa using h1) ?_
        rw [Array.getElem?_append_right (by simp)]
        simpa using hk
    · rw [List.getElem?_append_right hge] at h1
      rw [List.getElem?_append_right (by simp; simp at hal; omega)] at h2
      simp only [List.length_map] at h2
      rw [← hal] at h2
      exact hcr _ s x h1 h2) hgs
  have hargsE : c.args.map a.eval ++ cv.toArray = ((c.args.toList.map a.eval) ++ cv).toArray := by
    apply Array.ext'
    simp
  have hrun : (execOp a.eval ⟨dst, .call c, type, pos, after, guard⟩).run P w = .ok (.enter f (c.args.toList.map a.eval ++ cv).toArray) w := by
    simp only [execOp, resolve, hc, Deferred.ofValue, hcv, invoke, callFunc, Sem.run_bind, Sem.run_pure, Result.andThen_ok, Array.empty_append, hargsE]
    have hnm' : ¬ (fn.name = "runtime.NumGoroutine") := by simpa using hnm
    have hbd' : ¬ (fn.body = none) := fun e => by rw [e] at hbd; cases hbd
    simp [Go.program, Sem.run, hfn, hnm', hbd']
  refine wpE_of_wp (fun _ h => nomatch h) ?_
  unfold Oper.wp
  rw [hrun]
  simp only [Oper.upon]
  refine hcalls.mono ?_
  rintro e w' ⟨x, Z', Eo', rfl, hp⟩
  exact hnext x Z' w' Eo' hp
end

/-- The sites of what is handed over, in the frame that is entered. -/
def obj0 : Objs := fun _ => (0, .none)
def initEnvS : List SV → Nat → SV
  | [], _ => .any
  | c :: _, 0 => c
  | _ :: r, t + 1 => initEnvS r t
def pinS (j : Nat) : Nat := sig 0 (65536 + j)
/-- Objects that may come back elsewhere (mv) lie at sites that are not pinned. -/
def siteOf (mv : List Nat) (j : Nat) : Nat := bif mv.any (Nat.beq j) then sig 0 (32768 + j) else pinS j
def tau1 (mv : List Nat) : Nat → Nat → List (Nat × Nat)
  | _, 0 => []
  | k, n + 1 => (siteOf mv k, 0) :: tau1 mv (k + 1) n
abbrev tau0 (mv : List Nat) (n : Nat) : List (Nat × Nat) := tau1 mv 0 n
theorem tau1_get {mv : List Nat} : ∀ (n k i : Nat), i < n → (tau1 mv k n)[i]? = some (siteOf mv (k + i), 0)
  | 0, _, _, h => absurd h (Nat.not_lt_zero _)
  | n + 1, k, 0, _ => rfl
  | n + 1, k, i + 1, h => by
    simp only [tau1, List.getElem?_cons_succ]
    rw [tau1_get n (k + 1) i (by omega), show k + 1 + i = k + (i + 1) by omega]
def mvOk (mv : List Nat) (n : Nat) : Bool := Nat.blt n 32768
def entryStM (mv : List Nat) (args : List SV) (os : List (Nat × AObj)) : St := ⟨fun t => sBk obj0 0 65536 (tau0 mv os.length) (initEnvS args t), upd obj0 (uBk obj0 0 65536 (tau0 mv os.length) 0 os)⟩
/-- What is told of an object that comes back: 0 if it lies where it lay. -/
def gam (γ : List Nat) (j : Nat) : Nat := γ.getD j 1
def gamOk (n : Nat) (ρ : List (Nat × Nat)) (γ : List Nat) : Bool :=
  (List.range ρ.length).all fun j => !(Nat.beq (gam γ j) 0) || (Nat.blt j n && (match ρ[j]? with | some (t, g) => Nat.beq t (pinS j) && Nat.beq g 0 | .none => false))
def clr : SV → SV
  | .kt => .c (.v (.bool true))
  | .kf => .c (.v (.bool false))
  | .ap _ _ sz es => .c (.sl sz es)
  | s => s
theorem clr_rep {Z : Zone} {w : World} {obj : Objs} {E : Nat → Value} {s : SV} {x : Value} (h : RepS Z w obj E s x) : RepS Z w obj E (clr s) x := by
  cases h with
  | kt => exact .c _ _ (.v _)
  | kf => exact .c _ _ (.v _)
  | ap _ _ _ _ _ h _ _ => exact .c _ _ h
  | any => exact .any _
  | un => exact .un
  | c _ _ h => exact .c _ _ h
  | pm t g off x hs hg h => exact .pm t g off x hs hg h
  | fnr f caps vs hf hl h => exact .fnr f caps vs hf hl h
  | rs t g x hs hg h => exact .rs t g x hs hg h
  | agx cs vs hl h ha => exact .agx cs vs hl h ha
  | tpx cs vs hl h ha => exact .tpx cs vs hl h ha
  | pe t g n off x hg h => exact .pe t g n off x hg h
  | ss t g lo x hg h => exact .ss t g lo x hg h
  | mr t g x hs hg h => exact .mr t g x hs hg h
  | xr t g x hs hg h => exact .xr t g x hs hg h
  | xf t g f x hg h => exact .xf t g f x hg h
/-- A part of a result of several parts. -/
def svC : SV → Option CV
  | .c c => bif c.atom then some c else .none
  | .rs t g => some (.rs t g)
  | .mr t g => some (.mr t g)
  | .xr t g => some (.xr t g)
  | _ => .none
def resAllS (st : St) : List ResultVar → Option (List CV)
  | [] => some []
  | .tmp t :: r => match svC (clr (st.env t)), resAllS st r with
    | some c, some cs => some (c :: cs)
    | _, _ => .none
  | _ :: _ => .none
theorem svC_rep {Z : Zone} {w : World} {obj : Objs} {E : Nat → Value} {s : SV} {x : Value} {c : CV} (h : RepS Z w obj E s x) (hc : svC s = some c) : RepX Z w obj E c x ∧ c.atom = true := by
  cases h with
  | c c' x h =>
    simp only [svC] at hc
    cases ha : c'.atom with
    | true => rw [ha] at hc; simp at hc; subst hc; exact ⟨.one (.cl h), ha⟩
    | false => rw [ha] at hc; simp at hc
  | rs t g x hs hg h => simp only [svC, Option.some.injEq] at hc; subst hc; exact ⟨.one (.rs t g x hs hg h), rfl⟩
  | mr t g x hs hg h => simp only [svC, Option.some.injEq] at hc; subst hc; exact ⟨.one (.mr t g x hs hg h), rfl⟩
  | xr t g x hs hg h => simp only [svC, Option.some.injEq] at hc; subst hc; exact ⟨.one (.xr t g x hs hg h), rfl⟩
  | _ => simp [svC] at hc
def effRes (T : Tab) (st : St) (rs : List ResultVar) (ρ : List (Nat × Nat)) (γ : Nat → Nat) : Option SV :=
  match rs with
  | [.tmp t] => sTo ρ γ (clr (st.env t))
  | [.cell x t] => match T.get t, st.env x with
    | some i, .pm s g off => match st.obj s with
      | (g', .var cs) => bif Nat.beq g g' then (part i cs off).map SV.c else .none
      | _ => .none
    | _, _ => .none
  | rs => match resAll T st rs with
    | some cs => some (.c (.tup cs))
    | .none => match resAllS st rs with
      | some cs => (csTo ρ γ cs).map SV.tpx
      | .none => .none
def effFin (T : Tab) (rs : List ResultVar) (n : Nat) (r : SV) (os' : List (Nat × AObj)) (st : St) : Prop :=
  ∃ (ρ : List (Nat × Nat)) (γ : List Nat), (nodupS (ρ.map (·.1)) && Nat.ble n ρ.length && gamOk n ρ γ) = true ∧ osTo ρ (gam γ) st.obj 0 ρ = some os' ∧ effRes T st rs ρ (gam γ) = some r
def effFinM (T : Tab) (rs : List ResultVar) (n : Nat) (mv : List Nat) (r : SV) (os' : List (Nat × AObj)) (st : St) : Prop :=
  ∃ (ρ : List (Nat × Nat)) (γ : List Nat), (nodupS (ρ.map (·.1)) && Nat.ble n ρ.length && gamOk n ρ γ && (List.range ρ.length).all fun j => !(Nat.beq (gam γ j) 0) || !(mv.any (Nat.beq j))) = true ∧ osTo ρ (gam γ) st.obj 0 ρ = some os' ∧ effRes T st rs ρ (gam γ) = some r
def effOkM (T : Tab) (rs : List ResultVar) (n : Nat) (mv : List Nat) (r : SV) (os' : List (Nat × AObj)) (e : Exit) (st : St) : Prop :=
  match e with
  | .ret => effFinM T rs n mv r os' st
  | .normal => effFinM T rs n mv r os' st
  | _ => False
def effOk (T : Tab) (rs : List ResultVar) (n : Nat) (r : SV) (os' : List (Nat × AObj)) (e : Exit) (st : St) : Prop :=
  match e with
  | .ret => effFin T rs n r os' st
  | .normal => effFin T rs n r os' st
  | _ => False

theorem pinS_pin (j : Nat) : Nat.blt (pinS j) PIN = false := by
  cases hb : Nat.blt (pinS j) PIN with
  | false => rfl
  | true =>
    have := blt_lt hb
    unfold pinS sig PIN at this
    omega
theorem pinS_inj {i j : Nat} (h : pinS i = pinS j) : i = j := by unfold pinS sig at h; omega
theorem siteOf_inj {mv : List Nat} {n i j : Nat} (hn : n < 32768) (hi : i < n) (hj : j < n) (h : siteOf mv i = siteOf mv j) : i = j := by
  unfold siteOf at h
  cases hmi : mv.any (Nat.beq i) <;> cases hmj : mv.any (Nat.beq j) <;> rw [hmi, hmj] at h <;> simp only [cond_true, cond_false, pinS, sig] at h <;> omega
theorem bk0 {mv : List Nat} {n j : Nat} (hj : j < n) : bkS 0 65536 (tau0 mv n) j = siteOf mv j := by
  unfold bkS
  rw [tau1_get n 0 j hj, Nat.zero_add]
theorem bkG0 {mv : List Nat} {n j : Nat} (k : Nat) (hj : j < n) : bkG obj0 0 65536 (tau0 mv n) j k = k := by
  unfold bkG
  rw [tau1_get n 0 j hj]
  exact Nat.zero_add k
theorem nodup_sites {mv : List Nat} {n : Nat} (hn : n < 32768) : ∀ (os : List (Nat × AObj)) (k : Nat), k + os.length ≤ n → nodupS ((uBk obj0 0 65536 (tau0 mv n) k os).map (·.1)) = true
  | [], _, _ => rfl
  | (g, o) :: r, k, hk => by
    simp only [List.length_cons] at hk
    simp only [uBk, List.map_cons, nodupS]
    have : List.any ((uBk obj0 0 65536 (tau0 mv n) (k + 1) r).map (·.1)) (Nat.beq (bkS 0 65536 (tau0 mv n) k)) = false := by
      rw [List.any_eq_false]
      intro x hx hb
      have he := Nat.eq_of_beq_eq_true hb
      obtain ⟨i, hi⟩ := List.mem_iff_getElem?.1 hx
      have hlt : i < r.length := by
        have := (List.getElem?_eq_some_iff.1 hi).1
        simp only [List.length_map] at this
        have hl : ∀ (os : List (Nat × AObj)) (k : Nat), (uBk obj0 0 65536 (tau0 mv n) k os).length = os.length := by
          intro os
          induction os with
          | nil => intro k; rfl
          | cons p q ih => intro k; obtain ⟨a, b⟩ := p; simp [uBk, ih]
        rw [hl] at this
        exact this
      rw [uBk_sites r (k + 1) i hlt] at hi
      injection hi with hi
      rw [bk0 (by omega)] at hi he
      have := siteOf_inj hn (by omega) (by omega) (he.trans hi.symm)
      omega
    rw [this]
    exact nodup_sites hn r (k + 1) (by omega)

section
variable {P : Program} {G : World → Prop} {T : Tab}
theorem initS_rep {Z : Zone} {w : World} {obj : Objs} {E : Nat → Value} : ∀ (args : List SV) (vs : List Value) (k : Nat), args.length = vs.length → (∀ (i : Nat) (s : SV) (x : Value), args[i]? = some s → vs[i]? = some x → RepS Z w obj E s x) →
    ∀ t, RepS Z w obj E (initEnvS args t) ((vs ++ List.replicate k undef).getD t undef)
  | [], vs, k, hl, h, t => .any _
  | s :: r, [], k, hl, h, t => by simp at hl
  | s :: r, x :: vs, k, hl, h, 0 => h 0 s x rfl rfl
  | s :: r, x :: vs, k, hl, h, t + 1 => by
    simpa [initEnvS] using initS_rep r vs k (by simpa using hl) (fun i s x h1 h2 => h (i + 1) s x (by simpa using h1) (by simpa using h2)) t
theorem initS_lt {n : Nat} : ∀ (args : List SV), args.all (sLt n) = true → ∀ t, sLt n (initEnvS args t) = true
  | [], _, _ => rfl
  | s :: r, h, 0 => by simp only [List.all_cons, Bool.and_eq_true] at h; exact h.1
  | s :: r, h, t + 1 => by simp only [List.all_cons, Bool.and_eq_true] at h; exact initS_lt r h.2 t

/-- The sites of what is handed over. -/
def ob0 (mv : List Nat) (os : List (Nat × AObj)) : Objs := upd obj0 (uBk obj0 0 65536 (tau0 mv os.length) 0 os)
def E00 (Eo : Nat → Value) : Nat → Value := fun s => Eo (bif Nat.blt s PIN then s / 65536 - 32768 else s / 65536 - 65536)
def osOk0 (os : List (Nat × AObj)) : Bool := os.all (fun o => oLt os.length o.2 && Nat.beq o.1 0)
theorem osOk0_get {os : List (Nat × AObj)} (h : osOk0 os = true) : ∀ (j g : Nat) (o : AObj), os[j]? = some (g, o) → oLt os.length o = true ∧ g = 0 := fun j g o hj => by
  have := all_get h hj
  simp only [Bool.and_eq_true] at this
  exact ⟨this.1, Nat.eq_of_beq_eq_true this.2⟩
theorem osOk0_gen {os : List (Nat × AObj)} (h : osOk0 os = true) (j : Nat) : (objL os j).1 = 0 := by
  unfold objL
  cases hj : os[j]? with
  | none => rfl
  | some p => exact (osOk0_get h j p.1 p.2 hj).2
theorem E00_site (Eo : Nat → Value) (mv : List Nat) {j : Nat} (hj : j < 32768) : E00 Eo (siteOf mv j) = Eo j := by
  unfold siteOf
  cases mv.any (Nat.beq j) with
  | true =>
    have hlt : Nat.blt (sig 0 (32768 + j)) PIN = true := by
      have : sig 0 (32768 + j) < PIN := by unfold sig PIN; omega
      exact Nat.ble_eq_true_of_le this
    have he : sig 0 (32768 + j) / 65536 - 32768 = j := by unfold sig; omega
    simp only [cond_true, E00, hlt, he]
  | false =>
    have he : pinS j / 65536 - 65536 = j := by unfold pinS sig; omega
    simp only [cond_false, E00, pinS_pin, he]
theorem ob0_at {mv : List Nat} {os : List (Nat × AObj)} (hn : os.length < 32768) : ∀ (j g : Nat) (o : AObj), os[j]? = some (g, o) → ob0 mv os (siteOf mv j) = (g, oBk obj0 0 65536 (tau0 mv os.length) o) := fun j g o hj => by
  have hlt : j < os.length := (List.getElem?_eq_some_iff.1 hj).1
  have := upd_uBk_at (obj0 := obj0) os 0 j g o (nodup_sites (mv := mv) hn os 0 (by omega)) hj
  rw [Nat.zero_add, bk0 hlt, bkG0 _ hlt] at this
  exact this
theorem ob0_case (mv : List Nat) (os : List (Nat × AObj)) (s : Nat) : (∃ j, j < os.length ∧ s = siteOf mv j) ∨ ob0 mv os s = (0, .none) := by
  by_cases hs : ∃ j, j < os.length ∧ s = siteOf mv j
  · exact .inl hs
  · exact .inr (upd_uBk_ne (obj := obj0) (d := 0) (off := 65536) (τ := tau0 mv os.length) (obj0 := obj0) os 0 s (fun j hj => by rw [Nat.zero_add, bk0 hj]; exact fun e => hs ⟨j, hj, e⟩))
theorem back0 {mv : List Nat} {os : List (Nat × AObj)} (hn : os.length < 32768) (Eo : Nat → Value) : Back obj0 0 65536 (tau0 mv os.length) os Eo (ob0 mv os) (E00 Eo) := ⟨fun j g o hj => by
  have hlt : j < os.length := (List.getElem?_eq_some_iff.1 hj).1
  exact ⟨by rw [bk0 hlt, bkG0 _ hlt]; exact ob0_at hn j g o hj, by rw [bk0 hlt]; exact E00_site Eo mv (by omega)⟩⟩
theorem ob0_blk {mv : List Nat} {os : List (Nat × AObj)} (hn : os.length < 32768) {Eo : Nat → Value} : ∀ s b, (ob0 mv os s).2.blk (E00 Eo s) b → ∃ j, j < os.length ∧ s = siteOf mv j ∧ (objL os j).2.blk (Eo j) b := fun s b hb => by
  rcases ob0_case mv os s with ⟨j, hj, rfl⟩ | hs
  · refine ⟨j, hj, rfl, ?_⟩
    have hoj : os[j]? = some (os[j].1, os[j].2) := List.getElem?_eq_getElem hj
    rw [ob0_at hn j _ _ hoj, E00_site Eo mv (by omega), oBk_blk] at hb
    unfold objL
    rw [hoj]
    exact hb
  · rw [hs] at hb; simp [AObj.blk] at hb
/-- What holds where objects have been handed over. -/
theorem entry_inv {mv : List Nat} {Z : Zone} {w : World} {os : List (Nat × AObj)} {Eo : Nat → Value} {n : Nat} {a : Act} {e : Nat → SV} (hg : Grp Z w os Eo) (hz : ∀ b o, Z b o → b < w.heap.size) (hgs : ∀ w', Kept (SG w os Eo) w w' → G w') (hos : osOk0 os = true) (hmv : os.length < 32768)
    (hd : a.defers = []) (hn : a.tmps.size = n) (hlt : ∀ t, sLt os.length (e t) = true) (he : ∀ t, RepS Z w (objL os) Eo (e t) (a.tmps.getD t undef)) :
    Inv G ⟨Z, ob0 mv os, E00 Eo⟩ w (SG w os Eo) n Z (E00 Eo) ⟨fun t => sBk obj0 0 65536 (tau0 mv os.length) (e t), ob0 mv os⟩ a w :=
  { gs := hgs
    slt := fun _ h => h.1
    below := Kept.refl _ _
    defers := by rw [hd]; trivial
    sz := hn
    zlt := hz
    keeps := Keeps.refl _ _
    pin := PinKeep.refl _ _
    znew := fun _ _ h => .inl h
    env := fun t => (he t).back (back0 hmv Eo) (hlt t)
    obj := fun s => by
      show ObjOk Z w (ob0 mv os) (E00 Eo) (E00 Eo s) (ob0 mv os s).2
      rcases ob0_case mv os s with ⟨j, hj, rfl⟩ | hs
      · have hoj : os[j]? = some (os[j].1, os[j].2) := List.getElem?_eq_getElem hj
        rw [ob0_at hmv j _ _ hoj, E00_site Eo mv (by omega)]
        have := hg.ok j
        unfold objL at this
        rw [hoj] at this
        exact this.back (back0 hmv Eo) (osOk0_get hos j _ _ hoj).1
      · rw [hs]; trivial
    own := fun s b hb => by
      obtain ⟨j, _, _, hj⟩ := ob0_blk hmv s b hb
      exact fun h => h.2 ⟨j, hj⟩
    apart := fun s s' b hne h1 h2 => by
      obtain ⟨j, _, e1, hj⟩ := ob0_blk hmv s b h1
      obtain ⟨j', _, e2, hj'⟩ := ob0_blk hmv s' b h2
      exact hg.apart j j' b (fun e => hne (by rw [e1, e2, e])) hj hj' }
/-- What lies where it lay is none of those that may move. -/
def gamMv (mv : List Nat) (ρ : List (Nat × Nat)) (γ : List Nat) : Bool := (List.range ρ.length).all fun j => !(Nat.beq (gam γ j) 0) || !(mv.any (Nat.beq j))
/-- What is told of them at the end. -/
theorem fin_post {mv : List Nat} {Z : Zone} {w : World} {os os' : List (Nat × AObj)} {Eo : Nat → Value} {n : Nat} {Z' : Zone} {E' : Nat → Value} {st' : St} {a' : Act} {w' : World} {ρ : List (Nat × Nat)} {γ : List Nat}
    (hos : osOk0 os = true) (hmv : os.length < 32768) (hI' : Inv G ⟨Z, ob0 mv os, E00 Eo⟩ w (SG w os Eo) n Z' E' st' a' w') (hchk : (nodupS (ρ.map (·.1)) && Nat.ble os.length ρ.length && gamOk os.length ρ γ && gamMv mv ρ γ) = true) (hosT : osTo ρ (gam γ) st'.obj 0 ρ = some os') :
    ∃ Er, Match ρ (gam γ) st'.obj E' (objL os') Er ∧ ∀ r x, RepS Z' w' (objL os') Er r x → EffPost Z w os Eo Z' w' os' Er r x := by
  have hosg := osOk0_get hos
  have hgen0 := osOk0_gen hos
  have B := back0 (mv := mv) hmv Eo
  simp only [Bool.and_eq_true] at hchk
  obtain ⟨⟨⟨hnd, hlen⟩, hgam⟩, hgmv⟩ := hchk
  have hlen := Nat.le_of_ble_eq_true hlen
  obtain ⟨hol, hoa⟩ := osTo_spec hosT
  let Er : Nat → Value := fun j => match ρ[j]? with | some (t, _) => E' t | none => undef
  have hEr : ∀ j t g, ρ[j]? = some (t, g) → Er j = E' t := fun j t g h => by simp only [Er, h]
  have M : Match ρ (gam γ) st'.obj E' (objL os') Er := ⟨fun j t g hj => by
    obtain ⟨h1, o', h2, h3⟩ := hoa j t g hj
    rw [Nat.zero_add] at h3
    exact ⟨h1, o', h2, by unfold objL; rw [h3], hEr j t g hj⟩⟩
  have hnone : ∀ j, ρ[j]? = none → objL os' j = (0, .none) := fun j hj => by
    have : os'[j]? = none := List.getElem?_eq_none (by rw [hol]; exact List.getElem?_eq_none_iff.1 hj)
    unfold objL; rw [this]
  have hb' : ∀ j b, (objL os' j).2.blk (Er j) b → ∃ t g, ρ[j]? = some (t, g) ∧ (st'.obj t).2.blk (E' t) b := fun j b hb => by
    cases hj : ρ[j]? with
    | none => rw [hnone j hj] at hb; simp [AObj.blk] at hb
    | some p =>
      obtain ⟨t, g⟩ := p
      obtain ⟨h1, o', h2, h3, h4⟩ := M.at_ j t g hj
      rw [h3, h4, oTo_blk h2] at hb
      exact ⟨t, g, rfl, hb⟩
  -- what is of generation 0 lies where it lay
  have hpin : ∀ j o, objL os' j = (0, o) → o ≠ .none → siteOf mv j = pinS j ∧ j < os.length ∧ ρ[j]? = some (pinS j, 0) ∧ Er j = E' (pinS j) ∧ (st'.obj (pinS j)).1 = 0 ∧ oTo ρ (gam γ) (st'.obj (pinS j)).2 = some o := fun j o ho hne => by
    cases hj : ρ[j]? with
    | none => rw [hnone j hj] at ho; simp at ho; exact absurd ho.symm hne
    | some p =>
      obtain ⟨t, g⟩ := p
      obtain ⟨h1, o', h2, h3, h4⟩ := M.at_ j t g hj
      rw [h3] at ho
      simp only [Prod.mk.injEq] at ho
      obtain ⟨hg0, rfl⟩ := ho
      have hc := List.all_eq_true.1 hgam j (List.mem_range.2 (List.getElem?_eq_some_iff.1 hj).1)
      rw [hg0, hj] at hc
      simp only [Nat.beq_refl, Bool.not_true, Bool.false_or, Bool.and_eq_true] at hc
      have e1 := Nat.eq_of_beq_eq_true hc.2.1
      have e2 := Nat.eq_of_beq_eq_true hc.2.2
      subst e1; subst e2
      have hm := List.all_eq_true.1 hgmv j (List.mem_range.2 (List.getElem?_eq_some_iff.1 hj).1)
      rw [hg0] at hm
      simp only [Nat.beq_refl, Bool.not_true, Bool.false_or] at hm
      have hsite : siteOf mv j = pinS j := by
        unfold siteOf
        cases hq : mv.any (Nat.beq j) with
        | true => rw [hq] at hm; cases hm
        | false => rfl
      exact ⟨hsite, blt_lt hc.1, rfl, h4, h1, h2⟩
  have hpost : ∀ r x, RepS Z' w' (objL os') Er r x → EffPost Z w os Eo Z' w' os' Er r x := fun r x hx =>
    { res := hx
      grp := ⟨fun j => by
          cases hj : ρ[j]? with
          | none => rw [hnone j hj]; trivial
          | some p =>
            obtain ⟨t, g⟩ := p
            obtain ⟨h1, o', h2, h3, h4⟩ := M.at_ j t g hj
            rw [h3, h4]
            exact (hI'.obj t).to M h2,
        fun j j' b hne h1 h2 => by
          obtain ⟨t, g, q1, q2⟩ := hb' j b h1
          obtain ⟨t', g', q3, q4⟩ := hb' j' b h2
          refine hI'.apart t t' b (fun e => hne ?_) q2 q4
          refine nodupS_spec hnd j j' t ?_ ?_
          · rw [List.getElem?_map, q1]; rfl
          · rw [List.getElem?_map, q3, e]; rfl⟩
      keeps := hI'.keeps
      zlt := hI'.zlt
      znew := fun b o hz => by
        rcases hI'.znew b o hz with h | h
        · exact .inl h
        · by_cases hlt : b < w.heap.size
          · by_cases hgb : GB os Eo b
            · exact .inr (.inr hgb)
            · exact absurd ⟨hlt, hgb⟩ h
          · exact .inr (.inl (Nat.le_of_not_lt hlt))
      kept := hI'.below
      own := fun b ⟨j, hj⟩ => by
        obtain ⟨t, g, q1, q2⟩ := hb' j b hj
        have h := hI'.own t b q2
        by_cases hlt : b < w.heap.size
        · by_cases hgb : GB os Eo b
          · exact .inr hgb
          · exact absurd ⟨hlt, hgb⟩ h
        · exact .inl (Nat.le_of_not_lt hlt)
      ok :=
        { gen := fun t => by rw [hgen0]; exact Nat.zero_le _
          var := fun t g hg hl => by
            rw [hgen0] at hg
            have : g = 0 := Nat.le_zero.1 hg
            subst this
            obtain ⟨cs, hl⟩ := hl
            have : ∃ o, objL os' t = (0, o) ∧ o ≠ .none ∧ (o = .var cs ∨ o = .ro cs ∨ o = .varx cs) := by
              rcases hl with h | h | h
              · exact ⟨_, h, by simp, .inl rfl⟩
              · exact ⟨_, h, by simp, .inr (.inl rfl)⟩
              · exact ⟨_, h, by simp, .inr (.inr rfl)⟩
            obtain ⟨o, q1, q2, q3⟩ := this
            obtain ⟨p0, p1, p2, p3, p4, p5⟩ := hpin t o q1 q2
            obtain ⟨cs0, q6⟩ := oTo_var p5 q3
            have hlv : live st'.obj (pinS t) 0 := by
              refine ⟨cs0, ?_⟩
              rcases q6 with h | h | h
              · exact .inl (Prod.ext p4 h)
              · exact .inr (.inl (Prod.ext p4 h))
              · exact .inr (.inr (Prod.ext p4 h))
            obtain ⟨r1, r2⟩ := hI'.pin.var _ (pinS_pin t) hlv
            refine ⟨?_, by rw [p3, r2, ← p0]; exact E00_site Eo mv (by omega)⟩
            have := B.live (k := 0) p1 (by rw [bk0 p1, bkG0 _ p1, p0]; exact r1)
            exact this
          tok := fun t g el s hg hl => by
            rw [hgen0] at hg
            have : g = 0 := Nat.le_zero.1 hg
            subst this
            obtain ⟨p0, p1, p2, p3, p4, p5⟩ := hpin t _ hl (by simp)
            obtain ⟨r1, r2⟩ := hI'.pin.tok _ el s (pinS_pin t) (Prod.ext p4 (oTo_tok p5 rfl))
            exact ⟨B.tok p1 (by rw [bk0 p1, bkG0 _ p1, p0]; exact r1), by rw [p3, r2, ← p0]; exact E00_site Eo mv (by omega)⟩
          arr := fun t g el sz ds foc hg hl => by
            rw [hgen0] at hg
            have : g = 0 := Nat.le_zero.1 hg
            subst this
            obtain ⟨p0, p1, p2, p3, p4, p5⟩ := hpin t _ hl (by simp)
            obtain ⟨f0, q6⟩ := oTo_arr p5 rfl
            obtain ⟨⟨ds1, f1, r1⟩, r2⟩ := hI'.pin.arr _ el sz ds f0 (pinS_pin t) (Prod.ext p4 q6)
            obtain ⟨f2, r3⟩ := B.arr p1 (by rw [bk0 p1, bkG0 _ p1, p0]; exact r1)
            exact ⟨⟨ds1, f2, r3⟩, by rw [p3, r2, ← p0]; exact E00_site Eo mv (by omega)⟩
          map := fun t g es hg hl => by
            rw [hgen0] at hg
            have : g = 0 := Nat.le_zero.1 hg
            subst this
            obtain ⟨p0, p1, p2, p3, p4, p5⟩ := hpin t _ hl (by simp)
            obtain ⟨⟨es0, r1⟩, r2⟩ := hI'.pin.map _ es (pinS_pin t) (Prod.ext p4 (oTo_map p5 rfl))
            exact ⟨⟨es0, B.map p1 (by rw [bk0 p1, bkG0 _ p1, p0]; exact r1)⟩, by rw [p3, r2, ← p0]; exact E00_site Eo mv (by omega)⟩
          ext := fun t g K cs hg hl => by
            rw [hgen0] at hg
            have : g = 0 := Nat.le_zero.1 hg
            subst this
            obtain ⟨p0, p1, p2, p3, p4, p5⟩ := hpin t _ hl (by simp)
            obtain ⟨f0, q6⟩ := oTo_ext p5 rfl
            obtain ⟨⟨K1, f1, r1⟩, r2⟩ := hI'.pin.ext _ K f0 (pinS_pin t) (Prod.ext p4 q6)
            obtain ⟨f2, r3⟩ := B.ext p1 (by rw [bk0 p1, bkG0 _ p1, p0]; exact r1)
            exact ⟨⟨K1, f2, r3⟩, by rw [p3, r2, ← p0]; exact congrArg face (E00_site Eo mv (by omega))⟩ } }
  exact ⟨Er, M, hpost⟩
theorem resAllS_run {G : World → Prop} {Z0 : Base} {w0 : World} {S : Nat → Prop} {n : Nat} {Z : Zone} {E : Nat → Value} {st : St} {a : Act} {w : World} (hI : Inv G Z0 w0 S n Z E st a w) : ∀ (rs : List ResultVar) (cs : List CV), resAllS st rs = some cs →
    ∃ vs, (rs.mapM (readRes a)).run P w = .ok vs w ∧ vs.length = rs.length ∧ cs.length = vs.length ∧ (∀ (i : Nat) (c : CV) (x : Value), cs[i]? = some c → vs[i]? = some x → RepX Z w st.obj E c x) ∧ ∀ (i : Nat) (c : CV), cs[i]? = some c → c.atom = true
  | [], cs, h => by simp [resAllS] at h; subst h; exact ⟨[], by simp, rfl, rfl, fun i c x h1 => by simp at h1, fun i c h1 => by simp at h1⟩
  | .tmp t :: rs, cs, h => by
    simp only [resAllS] at h
    split at h
    · rename_i c cs' h1 h2
      simp at h
      subst h
      obtain ⟨hr, ha⟩ := svC_rep (clr_rep (hI.env t)) h1
      obtain ⟨vs, q1, q2, q3, q4, q5⟩ := resAllS_run hI rs cs' h2
      refine ⟨a.tmps.getD t undef :: vs, ?_, by simp [q2], by simp [q3], fun i c x h1 h2 => ?_, fun i c h1 => ?_⟩
      · simp only [List.mapM_cons, Sem.run_bind, readRes, Sem.run_pure, Result.andThen_ok, q1]
      · cases i with
        | zero => simp only [List.getElem?_cons_zero, Option.some.injEq] at h1 h2; subst h1; subst h2; exact hr
        | succ i => exact q4 i c x (by simpa using h1) (by simpa using h2)
      · cases i with
        | zero => simp at h1; subst h1; exact ha
        | succ i => exact q5 i c (by simpa using h1)
    · simp at h
  | .cell _ _ :: _, cs, h => by simp [resAllS] at h
theorem effn_of_wpM (mv : List Nat) (hT : TOk P T) (hm : P.follows .mixedOrders = true) {f : FuncId} {fn : Func} {code : Code} {args : List SV} {os os' : List (Nat × AObj)} {r : SV} (hf : P.funcs[f]? = some fn) (hname : (fn.name == "runtime.NumGoroutine") = false) (hb : fn.body = some code) (hn : args.length ≤ fn.ntmps)
    (hok : (osOk0 os && args.all (sLt os.length) && Nat.blt os.length 32768) = true)
    (h : wpA (orc P G) T fn.ntmps code (effOkM T fn.results.toList os.length mv r os') (entryStM mv args os)) : EffFn P G f args os r os' := by
  refine ⟨⟨fn, hf, hname, by rw [hb]; rfl⟩, ?_⟩
  intro Z w Eo vs hg hz hl hargs hgs
  simp only [Bool.and_eq_true] at hok
  obtain ⟨⟨hos, has⟩, hmv⟩ := hok
  have hmv := blt_lt hmv
  refine callsIn_fnR.1 (callsIn_of_wp_marks (F := FnR none) (n := 0) hf hb trivial ?_)
  have hvl : vs.length ≤ fn.ntmps := by rw [← hl]; exact hn
  have hI : Inv G ⟨Z, ob0 mv os, E00 Eo⟩ w (SG w os Eo) fn.ntmps Z (E00 Eo) (entryStM mv args os) { tmps := vs.toArray ++ Array.replicate (fn.ntmps - vs.toArray.size) undef, defers := [] } w :=
    entry_inv (e := initEnvS args) hg hz hgs hos hmv rfl (by simp; omega) (initS_lt args has) fun t => by
      have he : (vs.toArray ++ Array.replicate (fn.ntmps - vs.toArray.size) undef) = (vs ++ List.replicate (fn.ntmps - vs.length) undef).toArray := by
        apply Array.ext'
        simp
      simp only [he]
      have hg' : (vs ++ List.replicate (fn.ntmps - vs.length) undef).toArray.getD t undef = (vs ++ List.replicate (fn.ntmps - vs.length) undef).getD t undef := by
        simp [Array.getD_eq_getD_getElem?, List.getD_eq_getElem?_getD]
      rw [hg']
      exact initS_rep args vs _ hl hargs t
  refine wpA_sound hT hm code (.inl rfl) (fun e Z' E' st' a' w' hk hI' => ?_) Z _ _ _ w hI h
  have fin : ∀ w', Inv G ⟨Z, ob0 mv os, E00 Eo⟩ w (SG w os Eo) fn.ntmps Z' E' st' { a' with defers := [] } w' → effFinM T fn.results.toList os.length mv r os' st' → ∃ v, (results fn a'.tmps).run P w' = .ok v w' ∧ ∃ x Z'' Eo', Ending.returned v = .returned x ∧ EffPost Z w os Eo Z'' w' os' Eo' r x := by
    rintro w' hI' ⟨ρ, γ, hchk, hosT, hres⟩
    obtain ⟨Er, M, hpost⟩ := fin_post hos hmv hI' hchk hosT
    have closed : ∀ (v : Value) (c : CV), (results fn a'.tmps).run P w' = .ok v w' → Rep Z' w' c v → r = .c c → ∃ v, (results fn a'.tmps).run P w' = .ok v w' ∧ ∃ x Z'' Eo', Ending.returned v = .returned x ∧ EffPost Z w os Eo Z'' w' os' Eo' r x :=
      fun v c hv hr he => ⟨v, hv, v, Z', Er, rfl, hpost _ v (he ▸ .c _ _ hr)⟩
    unfold effRes at hres
    split at hres
    · rename_i t hrs
      refine ⟨a'.tmps.getD t undef, results_one hrs rfl, _, Z', Er, rfl, hpost _ _ ((clr_rep (hI'.env t)).to M hres)⟩
    · rename_i x t hrs
      have hv : ∃ c, r = .c c ∧ resC T st' (.cell x t) = some c := by
        clear closed hpost hk h
        simp only [resC]
        split at hres
        · rename_i i s g off hT' hpm
          rw [hT', hpm]
          split at hres
          · rename_i g' cs hob'
            simp only [hob']
            cases hbq : Nat.beq g g' with
            | true =>
              rw [hbq] at hres
              simp only [cond_true] at hres ⊢
              cases hp : part i cs off with
              | none => rw [hp] at hres; simp at hres
              | some c => rw [hp] at hres; simp at hres; exact ⟨c, hres.symm, rfl⟩
            | false => rw [hbq] at hres; simp at hres
          · simp at hres
        · simp at hres
      obtain ⟨c, hrc, hv⟩ := hv
      obtain ⟨v, hv', hr⟩ := results_run hT hI' (r := c) (by rw [hrs]; exact hv)
      exact closed v c hv' hr hrc
    · rename_i hne1 hne2
      cases ha : resAll T st' fn.results.toList with
      | none =>
        rw [ha] at hres
        simp only at hres
        cases hs : resAllS st' fn.results.toList with
        | none => rw [hs] at hres; simp at hres
        | some cs =>
          rw [hs] at hres
          simp only at hres
          cases hkk : csTo ρ (gam γ) cs with
          | none => rw [hkk] at hres; simp at hres
          | some cs' =>
            rw [hkk] at hres
            simp at hres
            subst hres
            obtain ⟨vs, q1, q2, q3, q4, q5⟩ := resAllS_run (P := P) hI' fn.results.toList cs hs
            obtain ⟨k1, k2⟩ := csTo_spec hkk
            have hne : vs.length ≠ 1 := fun e => by
              rw [q2] at e
              obtain ⟨rv, hrv⟩ := List.length_eq_one_iff.1 e
              cases rv with
              | tmp t => exact hne1 t hrv
              | cell y t => exact hne2 y t hrv
            refine ⟨_, results_many q1 hne, _, Z', Er, rfl, hpost _ _ (.tpx cs' vs (k1.trans q3) (fun i c' x h1 h2 => ?_) (fun i c' h1 => ?_))⟩
            · obtain ⟨c, h3, h4⟩ := k2 i c' h1
              exact (q4 i c x h3 h2).to M h4
            · obtain ⟨c, h3, h4⟩ := k2 i c' h1
              rw [c_atom h4]; exact q5 i c h3
      | some cs =>
        rw [ha] at hres
        simp at hres
        have hv : resVal T st' fn.results.toList = some (.tup cs) := by
          unfold resVal
          split
          · rename_i x hx
            cases x with
            | tmp t => exact absurd hx (hne1 t)
            | cell y t => exact absurd hx (hne2 y t)
          · rw [ha]; rfl
        obtain ⟨v, hv', hr⟩ := results_run hT hI' hv
        exact closed v _ hv' hr hres.symm
  cases e with
  | normal => exact leaves_marks a'.defers a' w' rfl hI' fun w2 hI2 => fin w2 hI2 hk
  | ret => exact leaves_marks a'.defers a' w' rfl hI' fun w2 hI2 => fin w2 hI2 hk
  | exit id => exact hk.elim
  | goto l => exact hk.elim
  | panic ch => exact hk.elim
  | outgrown => exact hk.elim
theorem effn_of_wqM (mv : List Nat) (hT : TOk P T) (hm : P.follows .mixedOrders = true) {f : FuncId} {fn : Func} {code : Code} {args : List SV} {os os' : List (Nat × AObj)} {r : SV} (hf : P.funcs[f]? = some fn) (hname : (fn.name == "runtime.NumGoroutine") = false) (hb : fn.body = some code) (hn : args.length ≤ fn.ntmps)
    (hok : (osOk0 os && args.all (sLt os.length) && Nat.blt os.length 32768) = true)
    (h : wqA (orc P G) T fn.ntmps code (effOkM T fn.results.toList os.length mv r os') (entryStM mv args os)) : EffFn P G f args os r os' := by
  rw [wqA_eq] at h
  exact effn_of_wpM mv hT hm hf hname hb hn hok h
abbrev entrySt (args : List SV) (os : List (Nat × AObj)) : St := entryStM [] args os
theorem effn_of_wq (hT : TOk P T) (hm : P.follows .mixedOrders = true) {f : FuncId} {fn : Func} {code : Code} {args : List SV} {os os' : List (Nat × AObj)} {r : SV} (hf : P.funcs[f]? = some fn) (hname : (fn.name == "runtime.NumGoroutine") = false) (hb : fn.body = some code) (hn : args.length ≤ fn.ntmps)
    (hok : (osOk0 os && args.all (sLt os.length) && Nat.blt os.length 32768) = true)
    (h : wqA (orc P G) T fn.ntmps code (effOk T fn.results.toList os.length r os') (entrySt args os)) : EffFn P G f args os r os' := by
  refine effn_of_wqM [] hT hm hf hname hb hn hok ?_
  rw [wqA_eq] at h ⊢
  refine wpA_mono code (fun e st h => ?_) _ h
  have key : effFin T fn.results.toList os.length r os' st → effFinM T fn.results.toList os.length [] r os' st := fun ⟨ρ, γ, h1, h2, h3⟩ => ⟨ρ, γ, by
    simp only [Bool.and_eq_true] at h1 ⊢
    exact ⟨h1, by simp⟩, h2, h3⟩
  cases e with
  | normal => exact key h
  | ret => exact key h
  | exit id => exact h.elim
  | goto l => exact h.elim
  | panic ch => exact h.elim
  | outgrown => exact h.elim
end
end Go.Abs

/-
  Ranges over functions: the contract of a round, calls of the round by the function that is ranged over, and how a loop's body meets its contract.
-/
namespace Go.Abs
open Go Go.RowKit

/-- The contract of a round. -/
def EffRnd (P : Program) (G : World → Prop) (l : Nat) (R : Loop) (env as : List SV) (os : List (Nat × AObj)) (r : SV) (os' : List (Nat × AObj)) : Prop :=
  ∀ (Z : Zone) (w : World) (Eo : Nat → Value) (vs : List Value), Grp Z w os Eo → (∀ b o, Z b o → b < w.heap.size) → as.length = vs.length →
    (∀ (i : Nat) (s : SV) (x : Value), as[i]? = some s → vs[i]? = some x → RepS Z w (objL os) Eo s x) → env.length = R.tmps.size →
    (∀ (i : Nat) (s : SV) (x : Value), env[i]? = some s → R.tmps.toList[i]? = some x → RepS Z w (objL os) Eo s x) → (∀ w', Kept (SG w os Eo) w w' → G w') →
    RoundIn (FnR none) 0 P l R.fn ((R.params.zip vs.toArray).foldl (fun tmps (t, a) => tmps.setIfInBounds t a) R.tmps) R.assign R.body w fun e w' => ∃ x Z' Eo', e = .returned x ∧ EffPost Z w os Eo Z' w' os' Eo' r x

section
variable {P : Program} {G : World → Prop} {T : Tab}
theorem eff_round {c : Call} {ty : TypeId} {fo : Operand} (hc : c.callee = .value fo) {l : Nat} {R : Loop} {env as : List SV} {os os' : List (Nat × AObj)} {r : SV} (i0 : Nat) (hi0 : os[i0]? = some (0, .lp l R .on)) (hps : as.length = R.params.size)
    (h : EffRnd P G l R env as os r os') : EffOp P G (.call c) ty (.fnr (.yl l R.tmps.toList) env :: as) os r os' := by
  intro Z w Eo a o next Q ho hty hg hz hl hargs hgs hnext
  obtain ⟨dst, op, type, pos, after, guard⟩ := o
  simp only at ho hty
  subst ho
  subst hty
  have hops : (Op.call c).operands = #[fo] ++ c.args := by simp [Op.operands, Call.operands, hc]
  rw [hops] at hl hargs
  have hfv := hargs 0 _ fo rfl (by rw [Array.getElem?_append_left (Nat.zero_lt_one)]; rfl)
  have hcv : a.eval fo = .func (.yield l) #[] #[] ∧ env.length = R.tmps.toList.length ∧ ∀ (i : Nat) (s : SV) (x : Value), env[i]? = some s → R.tmps.toList[i]? = some x → RepS Z w (objL os) Eo s x := by
    generalize a.eval fo = y at hfv
    cases hfv with
    | fnr _ _ vs hf hl hh =>
      have hv : vs = R.tmps.toList := hf
      subst hv
      exact ⟨rfl, hl, hh⟩
  obtain ⟨hcv, hel, henv⟩ := hcv
  have hrec := hg.ok i0
  have ho0 : objL os i0 = (0, .lp l R .on) := by unfold objL; rw [hi0]
  rw [ho0] at hrec
  obtain ⟨hL, _⟩ := hrec
  have hal : as.length = c.args.toList.length := by simp at hl; simpa using (by omega : as.length = c.args.size)
  have hrnd := h Z w Eo (c.args.toList.map a.eval) hg hz (by simpa using hal) (fun i s x h1 h2 => by
    rw [List.getElem?_map] at h2
    cases hk : c.args.toList[i]? with
    | none => rw [hk] at h2; simp at h2
    | some op =>
      rw [hk] at h2; simp at h2; subst h2
      refine hargs (i + 1) s op (by simpa using h1) ?_
      rw [Array.getElem?_append_right (by simp)]
      simpa using hk) (by simpa using hel) henv hgs
  have hargsE : c.args.map a.eval = (c.args.toList.map a.eval).toArray := by apply Array.ext'; simp
  have hy := run_yield (P := P) (args := (c.args.toList.map a.eval).toArray) hL (by simp [LpS.put]; simpa using hal.symm.trans hps)
  have hrun : (execOp a.eval ⟨dst, .call c, type, pos, after, guard⟩).run P w = .ok (.round l R.fn ((R.params.zip (c.args.toList.map a.eval).toArray).foldl (fun tmps (t, a) => tmps.setIfInBounds t a) R.tmps) R.assign R.body) w := by
    simp only [execOp, resolve, hc, Deferred.ofValue, hcv, invoke, Sem.run_bind, Sem.run_pure, Result.andThen_ok, Array.empty_append, hargsE]
    exact hy
  intro ρ
  refine ⟨fun _ _ => trivial, ?_⟩
  rw [Oper.semAt_eq _ _ (⟨dst, .call c, type, pos, after, guard⟩ : Oper) (fun _ h => nomatch h), hrun]
  refine ⟨fun h => absurd h (by simp [Fence.wide]), ?_⟩
  refine RoundIn.mono (F := FnR ρ) (n := 0) hrnd ?_
  rintro e w' ⟨x, Z', Eo', rfl, hp⟩
  exact hnext x Z' w' Eo' hp

/-- All ranges over functions in a piece of code. -/
def rangesOf : Code → List (Array Nat × Code × Code)
  | .rangeFunc _ ps x y => [(ps, x, y)]
  | .seq a b => rangesOf a ++ rangesOf b
  | .cond _ a b => rangesOf a ++ rangesOf b
  | .block _ a => rangesOf a
  | .loop a => rangesOf a
  | _ => []
/-- The slots that a round is told of. -/
def envL (l : List (Nat × SV)) : Nat → Nat → List SV
  | 0, _ => []
  | k + 1, t => mkEnv l t :: envL l k (t + 1)
def EnvE (e : Nat → SV) : List (Nat × SV) → Prop
  | [] => True
  | (t, s) :: r => s = e t ∧ EnvE e r
theorem mkEnv_E {e : Nat → SV} : ∀ {l : List (Nat × SV)}, EnvE e l → ∀ t, mkEnv l t = .any ∨ mkEnv l t = e t
  | [], _, _ => .inl rfl
  | (k, s) :: r, ⟨h1, h2⟩, t => by
    simp only [mkEnv]
    cases hb : Nat.beq k t with
    | true => have := Nat.eq_of_beq_eq_true hb; subst this; exact .inr h1
    | false => exact mkEnv_E h2 t
theorem envSub_L {e : Nat → SV} {l : List (Nat × SV)} (h : EnvE e l) : ∀ k t, envSub e t (envL l k t)
  | 0, _ => trivial
  | k + 1, t => ⟨mkEnv_E h t, envSub_L h k (t + 1)⟩

def rndEnv : List Nat → List SV → (Nat → SV) → Nat → SV
  | p :: ps, s :: ss, e => rndEnv ps ss (fun t => bif Nat.beq p t then s else e t)
  | _, _, e => e
def rndSt (mv : List Nat) (ps : List Nat) (as env : List SV) (os : List (Nat × AObj)) : St := ⟨fun t => sBk obj0 0 65536 (tau0 mv os.length) (rndEnv ps as (initEnvS env) t), ob0 mv os⟩
theorem rndEnv_lt {n : Nat} : ∀ (ps : List Nat) (as : List SV) (e : Nat → SV), as.all (sLt n) = true → (∀ t, sLt n (e t) = true) → ∀ t, sLt n (rndEnv ps as e t) = true
  | [], _, _, _, he, t => he t
  | _ :: _, [], _, _, he, t => he t
  | p :: ps, s :: ss, e, ha, he, t => by
    simp only [List.all_cons, Bool.and_eq_true] at ha
    refine rndEnv_lt ps ss _ ha.2 (fun t' => ?_) t
    cases Nat.beq p t' with
    | true => exact ha.1
    | false => exact he t'
theorem rndEnv_rep {Z : Zone} {w : World} {obj : Objs} {E : Nat → Value} {n : Nat} : ∀ (ps : List Nat) (as : List SV) (vs : List Value) (e : Nat → SV) (tmps : Array Value), tmps.size = n → ps.all (fun p => Nat.blt p n) = true → as.length = vs.length →
    (∀ (i : Nat) (s : SV) (x : Value), as[i]? = some s → vs[i]? = some x → RepS Z w obj E s x) → (∀ t, RepS Z w obj E (e t) (tmps.getD t undef)) →
    ∀ t, RepS Z w obj E (rndEnv ps as e t) (((ps.zip vs).foldl (fun (tmps : Array Value) (p : Nat × Value) => tmps.setIfInBounds p.1 p.2) tmps).getD t undef)
  | [], _, _, _, _, _, _, _, _, he, t => he t
  | _ :: _, [], [], _, _, _, _, _, _, he, t => he t
  | _ :: _, [], _ :: _, _, _, _, _, hl, _, _, _ => by simp at hl
  | _ :: _, _ :: _, [], _, _, _, _, hl, _, _, _ => by simp at hl
  | p :: ps, s :: ss, x :: xs, e, tmps, hn, hp, hl, ha, he, t => by
    simp only [List.all_cons, Bool.and_eq_true] at hp
    simp only [List.zip_cons_cons, List.foldl_cons]
    refine rndEnv_rep ps ss xs _ (tmps.setIfInBounds p x) (by simpa using hn) hp.2 (by simpa using hl) (fun i s' x' h1 h2 => ha (i + 1) s' x' (by simpa using h1) (by simpa using h2)) (fun t' => ?_) t
    have hlt : p < tmps.size := by rw [hn]; exact blt_lt hp.1
    cases hb : Nat.beq p t' with
    | true =>
      have := Nat.eq_of_beq_eq_true hb
      subst this
      have : (tmps.setIfInBounds p x).getD p undef = x := by simp [Array.getD, hlt]
      rw [this]
      exact ha 0 s x rfl rfl
    | false =>
      have hne : p ≠ t' := fun h => by subst h; simp at hb
      have : (tmps.setIfInBounds p x).getD t' undef = tmps.getD t' undef := by
        rw [Array.getD_eq_getD_getElem?, Array.getD_eq_getD_getElem?, Array.getElem?_setIfInBounds_ne hne]
      rw [this]
      exact he t'

def rndFin (mv : List Nat) (i0 l : Nat) (R : Loop) (n : Nat) (r : SV) (os' : List (Nat × AObj)) (q : LpS) (b : Bool) (st : St) : Prop :=
  st.obj (pinS i0) = (0, .lp l R .busy) ∧ r = .c (.v (.bool b)) ∧ ∃ (ρ : List (Nat × Nat)) (γ : List Nat), (nodupS (ρ.map (·.1)) && Nat.ble n ρ.length && gamOk n ρ γ && gamMv mv ρ γ) = true ∧
    osTo ρ (gam γ) (upd st.obj [(pinS i0, (0, .lp l R q))]) 0 ρ = some os'
def rndOk (mv : List Nat) (i0 l : Nat) (R : Loop) (n : Nat) (r : SV) (os' : List (Nat × AObj)) (e : Exit) (st : St) : Prop :=
  match e with
  | .normal => rndFin mv i0 l R n r os' .on true st
  | .ret => rndFin mv i0 l R n r os' (.off .ret) false st
  | .exit id => rndFin mv i0 l R n r os' (.off (.exit id)) false st
  | _ => False
def rndMid (H : Orc) (T : Tab) (m : Nat) (body : Code) (mv : List Nat) (i0 l : Nat) (R : Loop) (n : Nat) (r : SV) (os' : List (Nat × AObj)) (e : Exit) (st : St) : Prop :=
  match e with
  | .normal => st.obj (pinS i0) = (0, .lp l R .on) ∧ wqA H T m body (rndOk mv i0 l R n r os') ⟨st.env, upd st.obj [(pinS i0, (0, .lp l R .busy))]⟩
  | _ => False

section
variable {Z0 : Base} {w0 : World} {S : Nat → Prop} {n : Nat} {Z : Zone} {E : Nat → Value} {st : St} {a : Act} {w : World}
/-- The record is turned. -/
theorem Inv.turn (hI : Inv G Z0 w0 S n Z E st a w) {s g l : Nat} {R : Loop} {q : LpS} (q' : LpS) (ho : st.obj s = (g, .lp l R q)) :
    Inv G Z0 w0 S n Z E ⟨st.env, upd st.obj [(s, (g, .lp l R q'))]⟩ a (w.putObj l (.loop (q'.put R))) := by
  have hob := hI.obj s
  have hown := hI.own s
  rw [ho] at hob hown
  obtain ⟨hL, hz⟩ := hob
  have hs4 : upd st.obj [(s, (g, .lp l R q'))] s = (g, .lp l R q') := upd_one_same _ _ _
  have hn4 : ∀ t, t ≠ s → upd st.obj [(s, (g, .lp l R q'))] t = st.obj t := fun t ht => upd_one_ne _ _ ht
  have hoth : ∀ k, k ≠ l → (w.putObj l (.loop (q'.put R))).heap[k]? = w.heap[k]? := fun k hk => World.putObj_heap_other hk
  have : Inv G Z0 w0 S n Z E ⟨put st.env none .any, upd st.obj [(s, (g, .lp l R q'))]⟩ (a.put none undef) (w.putObj l (.loop (q'.put R))) := by
    refine hI.renew (· = s) (d := none) (r := .any) (x := undef) rfl ?_ ?_ (fun b o h => by have := hI.zlt b o h; simpa using this) (fun _ _ h => .inl h) (fun t ht => ⟨hn4 t ht, rfl⟩) ?_ ?_ ?_ ?_ ?_ (.any _)
    · refine ⟨rfl, rfl, rfl, by simp, fun k hk => hoth k (fun e => hown l rfl (e ▸ hk)), fun k hk => (hoth k (fun e => ?_)).trans hk⟩
      rw [e, hL] at hk; exact nomatch hk
    · exact fun b o hz' => ⟨hz', keep_heap (hoth b (fun e => hz o (e ▸ hz')))⟩
    · rintro t rfl
      rw [hs4, ho]
      exact .inr ⟨rfl, .inl (.inr ⟨_, _, _, rfl⟩)⟩
    · rintro _ t rfl
      rw [hs4]
      exact ⟨World.putObj_heap_same (Array.getElem?_eq_some_iff.1 hL).1, hz⟩
    · intro t ht b' hb
      have hne : b' ≠ l := fun e => by
        subst e
        exact hI.apart t s _ ht hb (by rw [ho] <;> rfl)
      refine ⟨hoth b' hne, fun _ hz => hz, ?_⟩
      rintro s' rfl h
      rw [hs4] at h
      simp [AObj.blk] at h
      exact hne h.symm
    · rintro t t' b rfl rfl h; exact absurd rfl h
    · rintro t rfl b hb
      rw [hs4] at hb
      exact hown b hb
  exact this
end

theorem effrnd_of_wq (mv : List Nat) (hT : TOk P T) (hm : P.follows .mixedOrders = true) {n l : Nat} {R : Loop} {ps : Array Nat} {ca cb : Code} {env as : List SV} {os os' : List (Nat × AObj)} {r : SV} (i0 : Nat)
    (hp : R.params = ps) (hca : R.assign = ca) (hcb : R.body = cb) (hn : R.tmps.size = n)
    (hok : (osOk0 os && env.all (sLt os.length) && as.all (sLt os.length) && ps.toList.all (fun p => Nat.blt p n) && noRange ca && noRange cb && Nat.blt os.length 32768) = true)
    (h : wqA (orc P G) T n ca (rndMid (orc P G) T n cb mv i0 l R os.length r os') (rndSt mv ps.toList as env os)) : EffRnd P G l R env as os r os' := by
  simp only [Bool.and_eq_true] at hok
  obtain ⟨⟨⟨⟨⟨⟨hos, hev⟩, has⟩, hps⟩, hna⟩, hnb⟩, hmv⟩ := hok
  have hmv := blt_lt hmv
  intro Z w Eo vs hg hz hl hargs hel henv hgs
  rw [hca, hcb, hp]
  have hfold : ((ps.zip vs.toArray).foldl (fun tmps (t, a) => tmps.setIfInBounds t a) R.tmps) = (ps.toList.zip vs).foldl (fun (tmps : Array Value) (p : Nat × Value) => tmps.setIfInBounds p.1 p.2) R.tmps := by
    rw [← Array.foldl_toList, Array.toList_zip]
  rw [hfold]
  generalize htm : (ps.toList.zip vs).foldl (fun (tmps : Array Value) (p : Nat × Value) => tmps.setIfInBounds p.1 p.2) R.tmps = tm
  have htsz : ∀ (zs : List (Nat × Value)) (t0 : Array Value), (zs.foldl (fun (tmps : Array Value) (p : Nat × Value) => tmps.setIfInBounds p.1 p.2) t0).size = t0.size := by
    intro zs
    induction zs with
    | nil => intro t0; rfl
    | cons z zs ih => intro t0; rw [List.foldl_cons, ih]; simp
  have hI : Inv G ⟨Z, ob0 mv os, E00 Eo⟩ w (SG w os Eo) n Z (E00 Eo) (rndSt mv ps.toList as env os) { tmps := tm, defers := [] } w :=
    entry_inv (e := rndEnv ps.toList as (initEnvS env)) hg hz hgs hos hmv rfl (by rw [← htm]; rw [htsz]; exact hn) (rndEnv_lt _ _ _ has (initS_lt env hev)) fun t => by
      rw [← htm]
      refine rndEnv_rep ps.toList as vs _ R.tmps hn hps hl hargs (fun t => ?_) t
      have := initS_rep env R.tmps.toList 0 (by simpa using hel) henv t
      simpa [Array.getD_eq_getD_getElem?, List.getD_eq_getElem?_getD] using this
  refine roundIn_of_wpIn trivial ?_
  rw [wqA_eq] at h
  refine wpA_sound (ρ := some l) hT hm ca (.inr hna) (fun e Z' E' st' a' w' hk hI' => ?_) Z _ _ _ w hI h
  cases e with
  | normal =>
    obtain ⟨ho, hb⟩ := hk
    have hL := (hI'.obj (pinS i0))
    rw [ho] at hL
    have hbr := run_beginRound (P := P) hL.1 rfl
    refine ⟨_, hbr, ?_⟩
    have hI2 := hI'.turn .busy ho
    rw [wqA_eq] at hb
    refine wpA_sound (ρ := some l) hT hm cb (.inr hnb) (fun e Z2 E2 st2 a2 w2 hk2 hI3 => ?_) Z' _ _ _ _ hI2 hb
    have fin : ∀ (q : LpS) (b : Bool) (jump : Option Code), b = jump.isNone → LpS.put R q = { LpS.put R .busy with state := if jump.isNone then .ready else .done, pending := jump } → rndFin mv i0 l R os.length r os' q b st2 →
        ∃ v w', (Instr.endRound l jump).run P w2 = .ok v w' ∧ ∃ x Z'' Eo', Ending.returned v = .returned x ∧ EffPost Z w os Eo Z'' w' os' Eo' r x := by
      intro q b jump hbj hq ⟨ho2, hr, ρ, γ, hchk, hosT⟩
      have hL2 := hI3.obj (pinS i0)
      rw [ho2] at hL2
      have her := run_endRound (P := P) jump hL2.1
      rw [← hq] at her
      obtain ⟨Er, M, hpost⟩ := fin_post hos hmv (hI3.turn q ho2) hchk hosT
      refine ⟨_, _, her, _, Z2, Er, rfl, hpost r _ ?_⟩
      rw [hr, hbj]
      exact .c _ _ (.v _)
    cases e with
    | normal => exact fin .on true none rfl rfl hk2
    | ret => exact fin (.off .ret) false (some .ret) rfl rfl hk2
    | exit id => exact fin (.off (.exit id)) false (some (.exit id)) rfl rfl hk2
    | goto t => exact hk2.elim
    | panic ch => exact hk2.elim
    | outgrown => exact hk2.elim
  | exit id => exact hk.elim
  | goto t => exact hk.elim
  | ret => exact hk.elim
  | panic ch => exact hk.elim
  | outgrown => exact hk.elim
end
end Go.Abs

/-
  What is known of operations on maps, on slices of slices and strings, and of comparisons of structs.
-/
namespace Go.Abs
open Go Go.RowKit

/-- Maps as lists of keys and values, in the order in which the keys came. -/
def mget {α β : Type} [BEq α] : List (α × β) → α → Option β
  | [], _ => .none
  | p :: r, x => bif x == p.1 then some p.2 else mget r x
def mset {α β : Type} [BEq α] : List (α × β) → α → β → List (α × β)
  | [], x, v => [(x, v)]
  | p :: r, x, v => bif x == p.1 then (x, v) :: r else p :: mset r x v
structure KeyOk {α : Type} [BEq α] (d : TypeDesc) (kc : α → Value) : Prop where
  key : ∀ a, MapKept.IsKey d (kc a)
  same : ∀ a b, Instr.sameNow d (kc a) (kc b) = some (a == b)
  bits : ∀ a b, (a == b) = true → Instr.sameBits 10000 (kc b) (kc a) = true
def kInt (k : IntKind) (a : Int) : Value := .int k a
def kStr (s : List UInt8) : Value := .string ⟨⟨s⟩⟩
theorem keyInt (k : IntKind) : KeyOk (.int k) (kInt k) where
  key _ := rfl
  same a b := by simp [Instr.sameNow, kInt]
  bits a b h := by simp at h; subst h; simp [Instr.sameBits, kInt]
theorem ba_beq (a b : List UInt8) : ((⟨⟨a⟩⟩ : ByteArray) == ⟨⟨b⟩⟩) = (a == b) := by
  cases h : a == b with
  | true => have := eq_of_beq h; subst this; exact (MapKept.bytes_beq _ _).2 rfl
  | false =>
    cases h' : ((⟨⟨a⟩⟩ : ByteArray) == ⟨⟨b⟩⟩) with
    | false => rfl
    | true =>
      have := (MapKept.bytes_beq _ _).1 h'
      have e : a = b := by injection this with this; injection this
      rw [e] at h; simp at h
theorem keyStr : KeyOk .string kStr where
  key _ := trivial
  same a b := by simp [Instr.sameNow, kStr, ba_beq]
  bits a b h := by have := eq_of_beq h; subst this; simp [Instr.sameBits, kStr, ba_beq]

/-- What a map reads as. -/
def RdMap (Z : Zone) (w : World) (es : List (CV × CV)) (v : Value) : Prop :=
  (v = .map none ∧ es = []) ∨ ∃ b arr clock, v = .map (some b) ∧ w.heap[b]? = some (.map arr clock) ∧ es.length = arr.size ∧
    ∀ (i : Nat) (k u : CV) (m : MapEntry), es[i]? = some (k, u) → arr[i]? = some m → Rep Z w k m.key ∧ Rep Z w u m.val
abbrev mpE {α β : Type} (kc : α → Value) (ev : β → CV) (m : List (α × β)) : List (CV × CV) := m.map fun p => (CV.v (kc p.1), ev p.2)

section
variable {P : Program} {G : World → Prop} {Z : Zone} {w : World} {α β : Type} [BEq α] {d : TypeDesc} {kc : α → Value}
theorem find_spec (hd : KeyOk d kc) (x : α) : ∀ (m : List (α × β)) (l : List MapEntry) (n : Nat), m.length = l.length → (∀ (i : Nat) (p : α × β) (e : MapEntry), m[i]? = some p → l[i]? = some e → e.key = kc p.1) →
    (Instr.findNow d (kc x) l n = some none ∧ mget m x = .none ∧ ∀ v, mset m x v = m ++ [(x, v)]) ∨
    ∃ i p e, m[i]? = some p ∧ l[i]? = some e ∧ (x == p.1) = true ∧ Instr.findNow d (kc x) l n = some (some (n + i, e.val)) ∧ mget m x = some p.2 ∧ ∀ v, mset m x v = m.set i (x, v)
  | [], l, n, hl, _ => by
    have : l = [] := by cases l with | nil => rfl | cons => simp at hl
    subst this
    exact .inl ⟨rfl, rfl, fun _ => rfl⟩
  | p :: r, [], n, hl, _ => by simp at hl
  | p :: r, e :: l, n, hl, h => by
    have hk := h 0 p e rfl rfl
    have hs := hd.same x p.1
    cases hb : x == p.1 with
    | true =>
      rw [hb, ← hk] at hs
      exact .inr ⟨0, p, e, rfl, rfl, hb, by simp [Instr.findNow, hs], by simp [mget, hb], fun v => by simp [mset, hb]⟩
    | false =>
      rw [hb, ← hk] at hs
      rcases find_spec hd x r l (n + 1) (by simpa using hl) (fun i p' e' h1 h2 => h (i + 1) p' e' (by simpa using h1) (by simpa using h2)) with ⟨h1, h2, h3⟩ | ⟨i, p', e', h1, h2, h3, h4, h5, h6⟩
      · exact .inl ⟨by simp [Instr.findNow, hs, h1], by simp [mget, hb, h2], fun v => by simp [mset, hb, h3]⟩
      · exact .inr ⟨i + 1, p', e', by simpa using h1, by simpa using h2, h3, by simp [Instr.findNow, hs, h4]; omega, by simp [mget, hb, h5], fun v => by simp [mset, hb, h6]⟩

def zeroCV (i : TI) : CV := bif i.isAgg then .agg (zeroC i.zero i.ks) else (zeroC i.zero i.ks).headD (.v undef)
theorem zeroCV_rep {t : Nat} {i : TI} (h : TOk1 P t i) : Rep Z w (zeroCV i) (zeroVal i) := by
  unfold zeroCV zeroVal
  cases ha : i.isAgg with
  | true =>
    simp only [cond_true]
    refine .agg _ _ (zeroC_len _ _) (fun j c x h1 h2 => ?_) (fun j c h1 => (zero_rep (Z := Z) (w := w) h j c h1).1)
    obtain ⟨_, y, h3, h4⟩ := zero_rep (Z := Z) (w := w) h j c h1
    have : y = x := by simp at h3; rw [h2] at h3; injection h3 with h3; exact h3.symm
    exact this ▸ h4
  | false =>
    simp only [cond_false]
    have h1 := h.single ha
    have h2 := h.len
    cases hz : i.zero with
    | nil => rw [hz] at h2; simp at h2; omega
    | cons z zs =>
      have hc : (zeroC i.zero i.ks)[0]? = some ((zeroC i.zero i.ks).headD (.v undef)) := by rw [hz]; rfl
      obtain ⟨_, y, h3, h4⟩ := zero_rep (Z := Z) (w := w) h 0 _ hc
      rw [hz] at h3 h4
      simp at h3
      subst h3
      exact h4
theorem run_zeroValue {t : Nat} {i : TI} (h : TOk1 P t i) (w : World) : (zeroValue t).run P w = .ok (zeroVal i) w := by
  obtain ⟨j, hj, _, _, hz⟩ := h.infoE
  simp [zeroValue, typeInfo, hj, hz]

theorem run_lookup {t kt et : TypeId} {i : TI} (ht : P.underlying t = some (.map kt et)) (hkt : P.underlying kt = some d) (hd : KeyOk d kc) (hi : TOk1 P et i) {ev : β → CV} {z : β} (hz : zeroCV i = ev z) {m : List (α × β)} {v : Value} (hm : RdMap Z w (mpE kc ev m) v) (x : α) (ok : Bool) :
    ∃ u, (Instr.lookup t v (kc x) ok).run P w = .ok (if ok then .tuple #[u, .bool (mget m x).isSome] else u) w ∧ Rep Z w (ev ((mget m x).getD z)) u := by
  have hck : ∀ b, (Instr.checkKey b 10000 kt (kc x)).run P w = .ok () w := fun b => MapKept.run_checkKey hkt (hd.key x) b 9999
  have fin : ∀ (arr : Array MapEntry), m.length = arr.size → (∀ (i : Nat) (p : α × β) (e : MapEntry), m[i]? = some p → arr[i]? = some e → e.key = kc p.1 ∧ Rep Z w (ev p.2) e.val) →
      ∃ u, (∃ o, Instr.findNow d (kc x) arr.toList 0 = some o ∧ ((o = .none ∧ (mget m x).isSome = false ∧ u = zeroVal i) ∨ ∃ k, o = some (k, u) ∧ (mget m x).isSome = true)) ∧ Rep Z w (ev ((mget m x).getD z)) u := by
    intro arr hl he
    rcases find_spec hd x m arr.toList 0 (by simpa using hl) (fun i p e h1 h2 => (he i p e h1 (by simpa using h2)).1) with ⟨h1, h2, _⟩ | ⟨i, p, e, h1, h2, h3, h4, h5, _⟩
    · exact ⟨_, ⟨_, h1, .inl ⟨rfl, by rw [h2]; rfl, rfl⟩⟩, by rw [h2]; show Rep Z w (ev z) _; rw [← hz]; exact zeroCV_rep hi⟩
    · exact ⟨e.val, ⟨_, h4, .inr ⟨_, rfl, by rw [h5]; rfl⟩⟩, by rw [h5]; exact (he i p e h1 (by simpa using h2)).2⟩
  rcases hm with ⟨rfl, hes⟩ | ⟨b, arr, clock, rfl, hh, hl, he⟩
  · have hmn : m = [] := by simpa [mpE] using hes
    obtain ⟨u, ⟨o, ho, hu⟩, hr⟩ := fin #[] (by rw [hmn]; rfl) (fun i p e h1 h2 => by simp at h2)
    refine ⟨u, ?_, hr⟩
    simp only [Instr.lookup, Sem.run_bind, run_underlying ht, Result.andThen_ok, Sem.run_pure, hck, MapKept.run_findKey hkt ho]
    rcases hu with ⟨rfl, h2, rfl⟩ | ⟨k, rfl, h2⟩
    · simp only [Sem.run_bind, run_zeroValue hi, Result.andThen_ok, Sem.run_pure, h2]
    · simp [h2]
  · obtain ⟨u, ⟨o, ho, hu⟩, hr⟩ := fin arr (by simpa [mpE] using hl) (fun i p e h1 h2 => by
      obtain ⟨q1, q2⟩ := he i (.v (kc p.1)) (ev p.2) e (by simp [mpE, h1]) h2
      exact ⟨rep_v q1, q2⟩)
    refine ⟨u, ?_, hr⟩
    simp only [Instr.lookup, Sem.run_bind, run_underlying ht, Result.andThen_ok, Sem.run_pure, MapKept.run_getObj_map hh, hck, MapKept.run_findKey hkt ho]
    rcases hu with ⟨rfl, h2, rfl⟩ | ⟨k, rfl, h2⟩
    · simp only [Sem.run_bind, run_zeroValue hi, Result.andThen_ok, Sem.run_pure, h2]
    · simp [h2]

/-- Nothing has changed. -/
theorem effpost_same {os : List (Nat × AObj)} {Eo : Nat → Value} {r : SV} {x : Value} (hg : Grp Z w os Eo) (hz : ∀ b o, Z b o → b < w.heap.size) (hr : RepS Z w (objL os) Eo r x) : EffPost Z w os Eo Z w os Eo r x :=
  { res := hr, grp := hg, keeps := Keeps.refl _ _, zlt := hz, znew := fun _ _ h => .inl h, kept := Kept.refl _ _, own := fun _ h => .inr h, ok := ObjKeep.refl _ _ }

theorem lookup_core {t kt et : TypeId} {i : TI} (ht : P.underlying t = some (.map kt et)) (hkt : P.underlying kt = some d) (hd : KeyOk d kc) (hi : TOk1 P et i) {ev : β → CV} {z : β} (hz : zeroCV i = ev z) {m : List (α × β)} {x : α} {a b : Operand} {ty : TypeId} {ok : Bool} {os : List (Nat × AObj)} {s : SV}
    (hs : ∀ Z w Eo v, Grp Z w os Eo → RepS Z w (objL os) Eo s v → RdMap Z w (mpE kc ev m) v) :
    EffOp P G (.lookup t a b ok) ty [s, .c (.v (kc x))] os (bif ok then .c (.tup [ev ((mget m x).getD z), .v (.bool (mget m x).isSome)]) else .c (ev ((mget m x).getD z))) os := by
  intro Z w Eo ac o next Q ho hty hg hzl hl hargs hgs hnext
  have h1 := hargs 0 s a rfl rfl
  have h2 := rep_cv (hargs 1 (.c (.v (kc x))) b rfl rfl)
  obtain ⟨u, hrun, hr⟩ := run_lookup ht hkt hd hi hz (hs Z w Eo _ hg h1) x ok
  have hex : (execOp ac.eval o).run P w = .ok (.value (if ok then .tuple #[u, .bool (mget m x).isSome] else u)) w := by
    obtain ⟨dst, op, type, pos, after, guard⟩ := o
    simp only at ho
    subst ho
    simp only [execOp, h2, Sem.run_bind, hrun, Result.andThen_ok, Sem.run_pure]
  refine wp_value hex (hnext _ Z w Eo (effpost_same hg hzl ?_))
  cases ok with
  | true =>
    refine .c _ _ (.tup _ [u, .bool (mget m x).isSome] rfl fun i c y h3 h4 => ?_)
    match i, h3, h4 with
    | 0, h3, h4 => simp at h3 h4; subst h3; subst h4; exact hr
    | 1, h3, h4 => simp at h3 h4; subst h3; subst h4; exact .v _
    | n + 2, h3, h4 => simp at h3
  | false => exact .c _ _ hr
/-- A look into a map of the call's own; into one that is written no more. -/
theorem eff_lookup {t kt et : TypeId} {i : TI} (ht : P.underlying t = some (.map kt et)) (hkt : P.underlying kt = some d) (hd : KeyOk d kc) (hi : TOk1 P et i) {ev : β → CV} {z : β} (hz : zeroCV i = ev z) {m : List (α × β)} {x : α} {a b : Operand} {ty : TypeId} {ok : Bool} :
    EffOp P G (.lookup t a b ok) ty [.mr 0 0, .c (.v (kc x))] [(0, .map (mpE kc ev m))] (bif ok then .c (.tup [ev ((mget m x).getD z), .v (.bool (mget m x).isSome)]) else .c (ev ((mget m x).getD z))) [(0, .map (mpE kc ev m))] := by
  refine lookup_core ht hkt hd hi hz fun Z w Eo v hg h => ?_
  cases h with
  | mr _ _ _ hs hgen hE =>
    have he := hE _ rfl
    obtain ⟨b, arr, clock, h1, h2, h3, h4, _⟩ := hg.ok 0
    exact .inr ⟨b, arr, clock, he.symm.trans h1, h2, h3, h4⟩
theorem eff_lookupC {t kt et : TypeId} {i : TI} (ht : P.underlying t = some (.map kt et)) (hkt : P.underlying kt = some d) (hd : KeyOk d kc) (hi : TOk1 P et i) {ev : β → CV} {z : β} (hz : zeroCV i = ev z) {m : List (α × β)} {x : α} {a b : Operand} {ty : TypeId} {ok : Bool} :
    EffOp P G (.lookup t a b ok) ty [.c (.mp (mpE kc ev m)), .c (.v (kc x))] [] (bif ok then .c (.tup [ev ((mget m x).getD z), .v (.bool (mget m x).isSome)]) else .c (ev ((mget m x).getD z))) [] := by
  refine lookup_core ht hkt hd hi hz fun Z w Eo v hg h => ?_
  cases h with
  | c _ _ h =>
    generalize hes : mpE kc ev m = es at h
    cases h with
    | mpn => exact .inl ⟨rfl, rfl⟩
    | mp _ b arr clock _ hh hl hk hv => exact .inr ⟨b, arr, clock, rfl, hh, hl, fun i k u m h1 h2 => ⟨hk i k u m h1 h2, hv i k u m h1 h2⟩⟩

def mlk {α β : Type} [BEq α] (m : List (α × β)) (x : α) (z : β) : Option β := some ((mget m x).getD z)
def mlook {α β : Type} [BEq α] (m : List (α × β)) (x : α) (z : β) : Option (β × Bool) := some ((mget m x).getD z, (mget m x).isSome)
section
variable {t kt et : TypeId} {i : TI} {ev : β → CV} {z : β} {m : List (α × β)} {x : α} {a b : Operand} {ty : TypeId}
theorem eff_mlk (ht : P.underlying t = some (.map kt et)) (hkt : P.underlying kt = some d) (hd : KeyOk d kc) (hi : TOk1 P et i) (hz : zeroCV i = ev z) {y : β} (hy : mlk m x z = some y) :
    EffOp P G (.lookup t a b false) ty [.mr 0 0, .c (.v (kc x))] [(0, .map (mpE kc ev m))] (.c (ev y)) [(0, .map (mpE kc ev m))] := by
  have := eff_lookup (P := P) (G := G) ht hkt hd hi hz (m := m) (x := x) (a := a) (b := b) (ty := ty) (ok := false)
  rw [← Option.some.inj hy]; exact this
theorem eff_mlkC (ht : P.underlying t = some (.map kt et)) (hkt : P.underlying kt = some d) (hd : KeyOk d kc) (hi : TOk1 P et i) (hz : zeroCV i = ev z) {y : β} (hy : mlk m x z = some y) :
    EffOp P G (.lookup t a b false) ty [.c (.mp (mpE kc ev m)), .c (.v (kc x))] [] (.c (ev y)) [] := by
  have := eff_lookupC (P := P) (G := G) ht hkt hd hi hz (m := m) (x := x) (a := a) (b := b) (ty := ty) (ok := false)
  rw [← Option.some.inj hy]; exact this
theorem eff_mlook (ht : P.underlying t = some (.map kt et)) (hkt : P.underlying kt = some d) (hd : KeyOk d kc) (hi : TOk1 P et i) (hz : zeroCV i = ev z) {y : β × Bool} (hy : mlook m x z = some y) :
    EffOp P G (.lookup t a b true) ty [.mr 0 0, .c (.v (kc x))] [(0, .map (mpE kc ev m))] (.c (.tup [ev y.1, .v (.bool y.2)])) [(0, .map (mpE kc ev m))] := by
  have := eff_lookup (P := P) (G := G) ht hkt hd hi hz (m := m) (x := x) (a := a) (b := b) (ty := ty) (ok := true)
  rw [← Option.some.inj hy]; exact this
theorem eff_mlookC (ht : P.underlying t = some (.map kt et)) (hkt : P.underlying kt = some d) (hd : KeyOk d kc) (hi : TOk1 P et i) (hz : zeroCV i = ev z) {y : β × Bool} (hy : mlook m x z = some y) :
    EffOp P G (.lookup t a b true) ty [.c (.mp (mpE kc ev m)), .c (.v (kc x))] [] (.c (.tup [ev y.1, .v (.bool y.2)])) [] := by
  have := eff_lookupC (P := P) (G := G) ht hkt hd hi hz (m := m) (x := x) (a := a) (b := b) (ty := ty) (ok := true)
  rw [← Option.some.inj hy]; exact this
end
theorem objL_one (g : Nat) (o : AObj) (j : Nat) : objL [(g, o)] j = if j = 0 then (g, o) else (0, .none) := by
  cases j with
  | zero => rfl
  | succ j => simp [objL]
theorem one_obj {o : AObj} {Eo : Nat → Value} {j b : Nat} {g : Nat} (h : (objL [(g, o)] j).2.blk (Eo j) b) : j = 0 ∧ o.blk (Eo 0) b := by
  rw [objL_one] at h
  by_cases hj : j = 0
  · subst hj; exact ⟨rfl, h⟩
  · rw [if_neg hj] at h; simp [AObj.blk] at h

theorem eff_makeMap {t : TypeId} {ty : TypeId} : EffOp P G (.makeMap t .none) ty [] [] (.mr 0 1) [(1, .map [])] := by
  intro Z w Eo ac o next Q ho hty hg hzl hl hargs hgs hnext
  have hex : (execOp ac.eval o).run P w = .ok (.value (.map (some w.heap.size))) (w.alloc (.map #[] 0)) := by
    obtain ⟨dst, op, type, pos, after, guard⟩ := o
    simp only at ho
    subst ho
    simp [execOp, Instr.makeMap]
  refine wp_value hex (hnext _ Z _ (fun _ => .map (some w.heap.size)) ?_)
  have hnew : (w.alloc (.map #[] 0)).heap[w.heap.size]? = some (.map #[] 0) := (MapKept.heap_alloc w _).1
  exact
    { res := .mr 0 1 _ ⟨_, rfl⟩ (Nat.le_refl _) fun _ _ => rfl
      grp := ⟨fun j => by
          rw [objL_one]
          by_cases hj : j = 0
          · rw [if_pos hj]
            exact ⟨w.heap.size, #[], 0, rfl, hnew, rfl, fun i k v m h => by simp at h, fun o hz => absurd (hzl _ _ hz) (Nat.lt_irrefl _)⟩
          · rw [if_neg hj]; trivial,
        fun j j' b hne h1 h2 => hne ((one_obj (Eo := fun _ => .map (some w.heap.size)) h1).1.trans (one_obj (Eo := fun _ => .map (some w.heap.size)) h2).1.symm)⟩
      keeps := Keeps.alloc hzl _
      zlt := fun b o hz => by have := hzl b o hz; simp; omega
      znew := fun _ _ h => .inl h
      kept := (Kept.refl _ _).alloc (fun _ h => h.1) _
      own := fun b ⟨j, hj⟩ => by
        obtain ⟨_, h⟩ := one_obj (Eo := fun _ => .map (some w.heap.size)) hj
        simp [AObj.blk] at h
        exact .inl (by omega)
      ok :=
        { gen := fun t => by simp [objL]
          var := fun t g hg hlv => by
            obtain ⟨cs, hlv⟩ := hlv
            rw [objL_one] at hlv
            by_cases ht : t = 0
            · rw [if_pos ht] at hlv; simp at hlv
            · rw [if_neg ht] at hlv; simp at hlv
          ext := fun t g K cs hg hlv => by
            rw [objL_one] at hlv
            by_cases ht : t = 0
            · rw [if_pos ht] at hlv; simp at hlv
            · rw [if_neg ht] at hlv; simp at hlv
          tok := fun t g el s hg hlv => by
            rw [objL_one] at hlv
            by_cases ht : t = 0
            · rw [if_pos ht] at hlv; simp at hlv
            · rw [if_neg ht] at hlv; simp at hlv
          arr := fun t g el sz ds foc hg hlv => by
            rw [objL_one] at hlv
            by_cases ht : t = 0
            · rw [if_pos ht] at hlv; simp at hlv
            · rw [if_neg ht] at hlv; simp at hlv
          map := fun t g es hg hlv => by
            rw [objL_one] at hlv
            by_cases ht : t = 0
            · rw [if_pos ht] at hlv
              simp at hlv
              simp [objL] at hg
              omega
            · rw [if_neg ht] at hlv; simp at hlv } }

/-- An object that is written where it lies. -/
theorem effpost_one {o o' : AObj} {Eo : Nat → Value} {w' : World} {b : Nat} {r : SV} {x : Value} (hg : Grp Z w [(0, o)] Eo) (hz : ∀ b o, Z b o → b < w.heap.size) (hb : o.blk (Eo 0) b) (hb' : ∀ c, o'.blk (Eo 0) c → c = b)
    (hk : Kept (fun k => k ≠ b) w w') (hne : ∀ c, ¬ Z b c) (hok : ObjOk Z w' (objL [(0, o')]) Eo (Eo 0) o') (hsk : ObjKeep (objL [(0, o)]) Eo (objL [(0, o')]) Eo) (hr : RepS Z w' (objL [(0, o')]) Eo r x) :
    EffPost Z w [(0, o)] Eo Z w' [(0, o')] Eo r x :=
  { res := hr
    grp := ⟨fun j => by
        rw [objL_one]
        by_cases hj : j = 0
        · rw [if_pos hj, hj]; exact hok
        · rw [if_neg hj]; trivial,
      fun j j' b hne h1 h2 => hne ((one_obj h1).1.trans (one_obj h2).1.symm)⟩
    keeps := fun c k h => ⟨h, keep_heap (hk.block c (fun e => hne k (e ▸ h)))⟩
    zlt := fun c k h => Nat.lt_of_lt_of_le (hz c k h) hk.size
    znew := fun _ _ h => .inl h
    kept := hk.mono fun k ⟨_, h⟩ e => h ⟨0, by rw [e]; exact hb⟩
    own := fun c ⟨j, hj⟩ => by
      obtain ⟨_, h⟩ := one_obj hj
      exact .inr ⟨0, by rw [hb' _ h]; exact hb⟩
    ok := hsk }

theorem eff_mapUpdate {t kt et : TypeId} (ht : P.underlying t = some (.map kt et)) (hkt : P.underlying kt = some d) (hd : KeyOk d kc) {ev : β → CV} {m : List (α × β)} {x : α} {v : β} {a b c : Operand} {ty : TypeId} :
    EffOp P G (.mapUpdate t a b c) ty [.mr 0 0, .c (.v (kc x)), .c (ev v)] [(0, .map (mpE kc ev m))] .any [(0, .map (mpE kc ev (mset m x v)))] := by
  intro Z w Eo ac o next Q ho hty hg hzl hl hargs hgs hnext
  have h1 := hargs 0 (.mr 0 0) a rfl rfl
  have h2 := rep_cv (hargs 1 (.c (.v (kc x))) b rfl rfl)
  have h3 : Rep Z w (ev v) (ac.eval c) := by
    have := hargs 2 (.c (ev v)) c rfl rfl
    cases this with | c _ _ h => exact h
  obtain ⟨bl, arr, clock, hE, hh, hlen, hent, hnz⟩ := hg.ok 0
  have hav : ac.eval a = .map (some bl) := by
    generalize ac.eval a = y at h1
    cases h1 with
    | mr _ _ _ hs hgen hE' => exact (hE' _ rfl).symm.trans hE
  have hck : (Instr.checkKey false 10000 kt (kc x)).run P w = .ok () w := MapKept.run_checkKey hkt (hd.key x) false 9999
  have hblk : (objL [(0, AObj.map (mpE kc ev m))] 0).2.blk (Eo 0) bl := by rw [hE]; rfl
  have hkey : ∀ (i : Nat) (p : α × β) (e : MapEntry), m[i]? = some p → arr[i]? = some e → e.key = kc p.1 ∧ Rep Z w (ev p.2) e.val := fun i p e h4 h5 => by
    obtain ⟨q1, q2⟩ := hent i (.v (kc p.1)) (ev p.2) e (by simp [mpE, h4]) h5
    exact ⟨rep_v q1, q2⟩
  have hml : m.length = arr.size := by simpa [mpE] using hlen
  have hlt : bl < w.heap.size := (Array.getElem?_eq_some_iff.1 hh).1
  -- the world behind
  have fin : ∀ (arr' : Array MapEntry) (clock' : Nat), (Instr.mapUpdate t (.map (some bl)) (kc x) (ac.eval c)).run P w = .ok () { w with heap := w.heap.setIfInBounds bl (.map arr' clock') } →
      (mset m x v).length = arr'.size → (∀ (i : Nat) (p : α × β) (e : MapEntry), (mset m x v)[i]? = some p → arr'[i]? = some e → e.key = kc p.1 ∧ Rep Z w (ev p.2) e.val) → Oper.wpE P o ac w next Q := by
    intro arr' clock' hrun hl' he'
    obtain ⟨hset, hoth⟩ := MapKept.heap_set (o' := .map arr' clock') hh
    have hex : (execOp ac.eval o).run P w = .ok .skip { w with heap := w.heap.setIfInBounds bl (.map arr' clock') } := by
      obtain ⟨dst, op, type, pos, after, guard⟩ := o
      simp only at ho
      subst ho
      simp only [execOp, hav, h2, Sem.run_bind, hrun, Result.andThen_ok, Sem.run_pure]
    have hk : Kept (fun k => k ≠ bl) w { w with heap := w.heap.setIfInBounds bl (.map arr' clock') } := ⟨rfl, rfl, rfl, by simp, fun k hk => hoth k hk, fun k hk => (hoth k (fun e => by rw [e, hh] at hk; exact nomatch hk)).trans hk⟩
    have hkeep : Keeps Z w Z { w with heap := w.heap.setIfInBounds bl (.map arr' clock') } := fun c k h => ⟨h, keep_heap (hk.block c (fun e => hnz k (e ▸ h)))⟩
    refine wp_skip' hex (hnext _ Z _ Eo (effpost_one hg hzl hblk (fun c h => by rw [hE] at h; cases h; rfl) hk hnz ?_ ?_ (.any _)))
    · refine ⟨bl, arr', clock', hE, hset, by simpa [mpE] using hl', fun i k u e h4 h5 => ?_, hnz⟩
      rw [List.getElem?_map] at h4
      cases hp : (mset m x v)[i]? with
      | none => rw [hp] at h4; simp at h4
      | some p =>
        rw [hp] at h4
        simp at h4
        obtain ⟨rfl, rfl⟩ := h4
        obtain ⟨q1, q2⟩ := he' i p e hp h5
        exact ⟨by rw [q1]; exact .v _, q2.keep hkeep⟩
    · exact
        { gen := fun t => by rw [objL_one, objL_one]; split <;> exact Nat.le_refl _
          var := fun t g _ hlv => by
            obtain ⟨cs, hlv⟩ := hlv
            rw [objL_one] at hlv
            by_cases ht : t = 0
            · rw [if_pos ht] at hlv; simp at hlv
            · rw [if_neg ht] at hlv; simp at hlv
          ext := fun t g K cs hg hlv => by
            rw [objL_one] at hlv
            by_cases ht : t = 0
            · rw [if_pos ht] at hlv; simp at hlv
            · rw [if_neg ht] at hlv; simp at hlv
          tok := fun t g el s hg hlv => by
            rw [objL_one] at hlv
            by_cases ht : t = 0
            · rw [if_pos ht] at hlv; simp at hlv
            · rw [if_neg ht] at hlv; simp at hlv
          arr := fun t g el sz ds foc hg hlv => by
            rw [objL_one] at hlv
            by_cases ht : t = 0
            · rw [if_pos ht] at hlv; simp at hlv
            · rw [if_neg ht] at hlv; simp at hlv
          map := fun t g es _ hlv => by
            rw [objL_one] at hlv ⊢
            by_cases ht : t = 0
            · rw [if_pos ht] at hlv ⊢
              simp at hlv
              obtain ⟨rfl, _⟩ := hlv
              exact ⟨⟨_, rfl⟩, rfl⟩
            · rw [if_neg ht] at hlv; simp at hlv }
  rcases find_spec hd x m arr.toList 0 (by simpa using hml) (fun i p e h4 h5 => (hkey i p e h4 (by simpa using h5)).1) with ⟨q1, q2, q3⟩ | ⟨i, p, e, q1, q2, q3, q4, q5, q6⟩
  · refine fin (arr.push { key := kc x, val := ac.eval c, born := clock }) (clock + 1) ?_ (by rw [q3]; simp [hml]) fun i p e h4 h5 => ?_
    · simp only [Instr.mapUpdate, Sem.run_bind, run_underlying ht, Result.andThen_ok, MapKept.run_getObj_map hh, hck, MapKept.run_findKey hkt q1, MapKept.run_setObj_map _ hh]
    · rw [q3] at h4
      rcases Nat.lt_or_ge i m.length with hi | hi
      · rw [List.getElem?_append_left hi] at h4
        rw [Array.getElem?_push, if_neg (by omega)] at h5
        exact hkey i p e h4 h5
      · rw [List.getElem?_append_right hi] at h4
        have hi0 : i = m.length := by
          have := (List.getElem?_eq_some_iff.1 h4).1
          simp at this
          omega
        subst hi0
        simp at h4
        subst h4
        rw [Array.getElem?_push, if_pos hml] at h5
        injection h5 with h5
        subst h5
        exact ⟨rfl, h3⟩
  · have hei : arr[i]? = some e := by simpa using q2
    have hkey0 := (hkey i p e q1 hei).1
    refine fin (arr.modify i fun e => { e with key := kc x, val := ac.eval c }) clock ?_ (by rw [q6]; simp [hml]) fun j p' e' h4 h5 => ?_
    · rw [Nat.zero_add] at q4
      simp only [Instr.mapUpdate, Sem.run_bind, run_underlying ht, Result.andThen_ok, MapKept.run_getObj_map hh, hck, MapKept.run_findKey hkt q4, hei, Option.map_some, Option.getD_some, Instr.keyThatStays, hkey0, hd.bits x p.1 q3, if_true, Sem.run_pure, MapKept.run_setObj_map _ hh]
    · rw [q6, List.getElem?_set] at h4
      rw [Array.getElem?_modify] at h5
      by_cases hij : i = j
      · subst hij
        rw [if_pos rfl] at h5
        rw [hei] at h5
        simp at h5
        subst h5
        have hil : i < m.length := (List.getElem?_eq_some_iff.1 q1).1
        simp [hil] at h4
        subst h4
        exact ⟨rfl, h3⟩
      · rw [if_neg hij] at h4
        rw [if_neg hij] at h5
        exact hkey j p' e' h4 h5
end
abbrev eInt (x : Int) : CV := I x
abbrev eBool (x : Bool) : CV := B x
abbrev eStr (x : Str) : CV := S x
end Go.Abs

/-
  What is known of more operations: parts of slices and strings, comparisons of structs and with nil, sorting.
-/
namespace Go.Abs
open Go Go.RowKit

def slc {α : Type} (l : List α) (lo hi : Int) : Option (List α) := bif decide (0 ≤ lo ∧ lo ≤ hi ∧ hi ≤ l.length) then some ((l.drop lo.toNat).take (hi.toNat - lo.toNat)) else .none
theorem slc_spec {α : Type} {l r : List α} {lo hi : Int} (h : slc l lo hi = some r) : ∃ a b : Nat, lo = a ∧ hi = b ∧ a ≤ b ∧ b ≤ l.length ∧ r = (l.drop a).take (b - a) := by
  unfold slc at h
  cases hb : decide (0 ≤ lo ∧ lo ≤ hi ∧ hi ≤ l.length) with
  | false => rw [hb] at h; simp at h
  | true =>
    rw [hb] at h
    have hc := of_decide_eq_true hb
    simp at h
    exact ⟨lo.toNat, hi.toNat, by omega, by omega, by omega, by omega, h.symm⟩

section
variable {P : Program} {G : World → Prop} {Z : Zone} {w : World}
theorem run_slice {t e : TypeId} {i : TI} (ht : P.underlying t = some (.slice e)) (hi : TOk1 P e i) {ds : List (List CV)} {v : Value} (hv : Rep Z w (.sl i.size ds) v) {l h : Nat} (hlh : l ≤ h) (hh : h ≤ ds.length) {lo hi' : Option Value} (hlo : BoundIs lo l 0) (hhi : BoundIs hi' h ds.length) :
    ∃ v', (Instr.sliceAt t v lo hi' none).run P w = .ok v' w ∧ Rep Z w (.sl i.size ((ds.drop l).take (h - l))) v' := by
  have key : ∀ (a : Option Addr) (cap : Nat), v = .slice a ds.length cap → ds.length ≤ cap → (Instr.sliceAt t v lo hi' none).run P w = .ok (.slice (if cap = l then a else a.map (·.add (l * i.size))) (h - l) (cap - l)) w := by
    intro a cap he hc
    subst he
    simp only [Instr.sliceAt, Sem.run_bind, run_underlying ht, Result.andThen_ok, Instr.slice, run_sliceBounds true hc hlh hh hlo hhi, hi.sizeOf, Sem.run_pure]
  generalize hcv : CV.sl i.size ds = cv at hv
  cases hv with
  | nil sz a cap =>
    injection hcv with h1 h2
    subst h2
    simp at hh
    subst hh
    have hl0 : l = 0 := Nat.le_zero.1 hlh
    subst hl0
    refine ⟨_, key a cap rfl (Nat.zero_le _), ?_⟩
    simp only [List.drop_nil, List.take_nil]
    exact .nil _ _ _
  | sl sz ds' b o cap f hcap hsz hc hr =>
    injection hcv with h1 h2
    subst h1
    subst h2
    refine ⟨_, key (some ⟨b, o, none⟩) cap rfl hcap, ?_⟩
    by_cases hle : l = h
    · subst hle
      simp only [Nat.sub_self, List.take_zero]
      exact .nil _ _ _
    · have hcl : cap ≠ l := by omega
      rw [if_neg hcl]
      show Rep Z w _ (Value.slice (some (Addr.add ⟨b, o, none⟩ (l * i.size))) (h - l) (cap - l))
      rw [show Addr.add ⟨b, o, none⟩ (l * i.size) = ⟨b, o + l * i.size, none⟩ by simp [Addr.add]]
      have hlen : ((ds.drop l).take (h - l)).length = h - l := by simp; omega
      have hget : ∀ (k : Nat) (d : List CV), ((ds.drop l).take (h - l))[k]? = some d → ds[l + k]? = some d := fun k d hk => by
        rw [List.getElem?_take] at hk
        split at hk
        · rw [List.getElem?_drop] at hk; exact hk
        · simp at hk
      have := Rep.sl (Z := Z) (w := w) i.size ((ds.drop l).take (h - l)) b (o + l * i.size) (cap - l) (fun k j => f (l + k) j) (by omega) (fun k d hk => hsz (l + k) d (hget k d hk))
        (fun k j d c h1 h2 => by
          have := hc (l + k) j d c (hget k d h1) h2
          rw [show o + l * i.size + k * i.size + j = o + (l + k) * i.size + j by rw [Nat.add_mul]; omega]
          exact this)
        (fun k j d c h1 h2 => hr (l + k) j d c (hget k d h1) h2)
      rw [hlen] at this
      exact this
  | _ => cases hcv
theorem slice_op0 {t : TypeId} {x : Operand} {a b : Option Operand} : (Op.slice t x a b none).operands[0]? = some x := by cases a <;> cases b <;> rfl

theorem slice_core {α : Type} {t e : TypeId} {i : TI} (ht : P.underlying t = some (.slice e)) (hi : TOk1 P e i) {cf : α → List CV} {l r : List α} {lo hi' : Int} (h : slc l lo hi' = some r) {x : Operand} {a b : Option Operand} {ty : TypeId} {sa : List SV}
    (hsa : ∀ (Z : Zone) (w : World) (Eo : Nat → Value) (ac : Act), (∀ (j : Nat) (s : SV) (y : Operand), (SV.c (.sl i.size (l.map cf)) :: sa)[j]? = some s → (Op.slice t x a b none).operands[j]? = some y → RepS Z w (objL []) Eo s (ac.eval y)) →
      BoundIs (a.map ac.eval) lo.toNat 0 ∧ BoundIs (b.map ac.eval) hi'.toNat l.length) :
    EffOp P G (.slice t x a b none) ty (.c (.sl i.size (l.map cf)) :: sa) [] (.c (.sl i.size (r.map cf))) [] := by
  intro Z w Eo ac o next Q ho hty hg hzl hl hargs hgs hnext
  obtain ⟨p, q, hp, hq, h1, h2, hr⟩ := slc_spec h
  have hx : Rep Z w (.sl i.size (l.map cf)) (ac.eval x) := by
    have := hargs 0 _ x rfl slice_op0
    cases this with | c _ _ h => exact h
  obtain ⟨b1, b2⟩ := hsa Z w Eo ac hargs
  obtain ⟨v', hrun, hrep⟩ := run_slice ht hi hx (l := p) (h := q) h1 (by simpa using h2) (by rw [hp] at b1; simpa using b1) (by rw [hq] at b2; simpa using b2)
  have hex : (execOp ac.eval o).run P w = .ok (.value v') w := by
    obtain ⟨dst, op, type, pos, after, guard⟩ := o
    simp only at ho
    subst ho
    simp only [execOp, Option.map_none, Sem.run_bind, hrun, Result.andThen_ok, Sem.run_pure]
  refine wp_value hex (hnext _ Z w Eo (effpost_same hg hzl (.c _ _ ?_)))
  rw [hr, List.map_take, List.map_drop]
  exact hrep
theorem eff_slice_h {α : Type} {t e : TypeId} {i : TI} (ht : P.underlying t = some (.slice e)) (hi : TOk1 P e i) {cf : α → List CV} {l r : List α} {hi' : Int} (h : slc l 0 hi' = some r) {x b : Operand} {ty : TypeId} {k : IntKind} :
    EffOp P G (.slice t x none (some b) none) ty [.c (.sl i.size (l.map cf)), .c (.v (.int k hi'))] [] (.c (.sl i.size (r.map cf))) [] :=
  slice_core ht hi h fun Z w Eo ac hargs => by
    obtain ⟨p, q, hp, hq, h1, h2, hr⟩ := slc_spec h
    have := rep_cv (hargs 1 _ b rfl (by simp [Op.operands]))
    exact ⟨.inl ⟨rfl, rfl⟩, .inr ⟨k, by simp [this, hq]⟩⟩
theorem eff_slice_l {α : Type} {t e : TypeId} {i : TI} (ht : P.underlying t = some (.slice e)) (hi : TOk1 P e i) {cf : α → List CV} {l r : List α} {lo : Int} (h : slc l lo l.length = some r) {x b : Operand} {ty : TypeId} {k : IntKind} :
    EffOp P G (.slice t x (some b) none none) ty [.c (.sl i.size (l.map cf)), .c (.v (.int k lo))] [] (.c (.sl i.size (r.map cf))) [] :=
  slice_core ht hi h fun Z w Eo ac hargs => by
    obtain ⟨p, q, hp, hq, h1, h2, hr⟩ := slc_spec h
    have := rep_cv (hargs 1 _ b rfl (by simp [Op.operands]))
    exact ⟨.inr ⟨k, by simp [this, hp]⟩, .inl ⟨rfl, by simp⟩⟩
theorem eff_slice_lh {α : Type} {t e : TypeId} {i : TI} (ht : P.underlying t = some (.slice e)) (hi : TOk1 P e i) {cf : α → List CV} {l r : List α} {lo hi' : Int} (h : slc l lo hi' = some r) {x a b : Operand} {ty : TypeId} {k k' : IntKind} :
    EffOp P G (.slice t x (some a) (some b) none) ty [.c (.sl i.size (l.map cf)), .c (.v (.int k lo)), .c (.v (.int k' hi'))] [] (.c (.sl i.size (r.map cf))) [] :=
  slice_core ht hi h fun Z w Eo ac hargs => by
    obtain ⟨p, q, hp, hq, h1, h2, hr⟩ := slc_spec h
    have e1 := rep_cv (hargs 1 _ a rfl (by simp [Op.operands]))
    have e2 := rep_cv (hargs 2 _ b rfl (by simp [Op.operands]))
    exact ⟨.inr ⟨k, by simp [e1, hp]⟩, .inr ⟨k', by simp [e2, hq]⟩⟩

/-- Parts of strings. -/
theorem str_extract (s : List UInt8) (l h : Nat) : (ByteArray.mk ⟨s⟩).extract l h = ⟨⟨(s.drop l).take (h - l)⟩⟩ := by
  have : ((ByteArray.mk ⟨s⟩).extract l h).data = (⟨(s.drop l).take (h - l)⟩ : Array UInt8) := by
    rw [ByteArray.data_extract]
    simp [List.extract_toArray]
  cases hx : (ByteArray.mk ⟨s⟩).extract l h with
  | mk d => rw [hx] at this; simp at this; rw [this]
theorem sslice_core {t : TypeId} (ht : P.underlying t = some .string) {l r : List UInt8} {lo hi' : Int} (h : slc l lo hi' = some r) {x : Operand} {a b : Option Operand} {ty : TypeId} {sa : List SV}
    (hsa : ∀ (Z : Zone) (w : World) (Eo : Nat → Value) (ac : Act), (∀ (j : Nat) (s : SV) (y : Operand), (SV.c (.v (.string ⟨⟨l⟩⟩)) :: sa)[j]? = some s → (Op.slice t x a b none).operands[j]? = some y → RepS Z w (objL []) Eo s (ac.eval y)) →
      BoundIs (a.map ac.eval) lo.toNat 0 ∧ BoundIs (b.map ac.eval) hi'.toNat l.length) :
    EffOp P G (.slice t x a b none) ty (.c (.v (.string ⟨⟨l⟩⟩)) :: sa) [] (.c (.v (.string ⟨⟨r⟩⟩))) [] := by
  intro Z w Eo ac o next Q ho hty hg hzl hl hargs hgs hnext
  obtain ⟨p, q, hp, hq, h1, h2, hr⟩ := slc_spec h
  have hx := rep_cv (hargs 0 _ x rfl slice_op0)
  obtain ⟨b1, b2⟩ := hsa Z w Eo ac hargs
  have hsz : (ByteArray.mk ⟨l⟩).size = l.length := by simp [ByteArray.size]
  have hb := run_sliceBounds (P := P) false (len := (ByteArray.mk ⟨l⟩).size) (cap := (ByteArray.mk ⟨l⟩).size) (l := p) (h := q) (Nat.le_refl _) h1 (by rw [hsz]; exact h2) (lo := a.map ac.eval) (hi := b.map ac.eval) (by rw [hp] at b1; simpa using b1) (by rw [hq] at b2; rw [hsz]; simpa using b2) w
  have hex : (execOp ac.eval o).run P w = .ok (.value (.string ⟨⟨r⟩⟩)) w := by
    obtain ⟨dst, op, type, pos, after, guard⟩ := o
    simp only at ho
    subst ho
    simp only [execOp, hx, Option.map_none, Instr.sliceAt, Instr.slice, Sem.run_bind, run_underlying ht, Result.andThen_ok, Option.isSome_none, Bool.false_eq_true, if_false, hb, Sem.run_pure, str_extract, hr]
  exact wp_value hex (hnext _ Z w Eo (effpost_same hg hzl (.c _ _ (.v _))))
theorem eff_sslice_h {t : TypeId} (ht : P.underlying t = some .string) {l r : List UInt8} {hi' : Int} (h : slc l 0 hi' = some r) {x b : Operand} {ty : TypeId} {k : IntKind} :
    EffOp P G (.slice t x none (some b) none) ty [.c (.v (.string ⟨⟨l⟩⟩)), .c (.v (.int k hi'))] [] (.c (.v (.string ⟨⟨r⟩⟩))) [] :=
  sslice_core ht h fun Z w Eo ac hargs => by
    obtain ⟨p, q, hp, hq, h1, h2, hr⟩ := slc_spec h
    have := rep_cv (hargs 1 _ b rfl (by simp [Op.operands]))
    exact ⟨.inl ⟨rfl, rfl⟩, .inr ⟨k, by simp [this, hq]⟩⟩
theorem eff_sslice_l {t : TypeId} (ht : P.underlying t = some .string) {l r : List UInt8} {lo : Int} (h : slc l lo l.length = some r) {x b : Operand} {ty : TypeId} {k : IntKind} :
    EffOp P G (.slice t x (some b) none none) ty [.c (.v (.string ⟨⟨l⟩⟩)), .c (.v (.int k lo))] [] (.c (.v (.string ⟨⟨r⟩⟩))) [] :=
  sslice_core ht h fun Z w Eo ac hargs => by
    obtain ⟨p, q, hp, hq, h1, h2, hr⟩ := slc_spec h
    have := rep_cv (hargs 1 _ b rfl (by simp [Op.operands]))
    exact ⟨.inr ⟨k, by simp [this, hp]⟩, .inl ⟨rfl, by simp⟩⟩
theorem eff_sslice_lh {t : TypeId} (ht : P.underlying t = some .string) {l r : List UInt8} {lo hi' : Int} (h : slc l lo hi' = some r) {x a b : Operand} {ty : TypeId} {k k' : IntKind} :
    EffOp P G (.slice t x (some a) (some b) none) ty [.c (.v (.string ⟨⟨l⟩⟩)), .c (.v (.int k lo)), .c (.v (.int k' hi'))] [] (.c (.v (.string ⟨⟨r⟩⟩))) [] :=
  sslice_core ht h fun Z w Eo ac hargs => by
    obtain ⟨p, q, hp, hq, h1, h2, hr⟩ := slc_spec h
    have e1 := rep_cv (hargs 1 _ a rfl (by simp [Op.operands]))
    have e2 := rep_cv (hargs 2 _ b rfl (by simp [Op.operands]))
    exact ⟨.inr ⟨k, by simp [e1, hp]⟩, .inr ⟨k', by simp [e2, hq]⟩⟩

/-- Structs of plain values, compared. -/
theorem agg_vals {xs : List Value} {v : Value} (h : Rep Z w (.agg (xs.map CV.v)) v) : v = .agg xs.toArray := by
  generalize hc : CV.agg (xs.map CV.v) = c at h
  cases h with
  | agg cs vs hl hr ha =>
    injection hc with hc
    subst hc
    have : xs = vs := by
      apply List.ext_getElem? 
      intro i
      cases hi : xs[i]? with
      | none => rw [List.getElem?_eq_none]; simp at hl; rw [← hl]; exact List.getElem?_eq_none_iff.1 hi
      | some x =>
        have hlt : i < vs.length := by simp at hl; rw [← hl]; exact (List.getElem?_eq_some_iff.1 hi).1
        have := hr i (.v x) vs[i] (by simp [hi]) (List.getElem?_eq_getElem hlt)
        rw [List.getElem?_eq_getElem hlt, rep_v this]
    rw [this]
  | _ => cases hc
theorem eff_eqs {op : BinOp} {t : TypeId} {xs ys : List Value} {r : Bool} {cx cy : List CV} (hx : cx = xs.map CV.v) (hy : cy = ys.map CV.v) (hm : P.eqGuardType P.depth t = false) (hrun : ∀ w, (binOp op t (.agg xs.toArray) (.agg ys.toArray)).run P w = .ok (.bool r) w) {x y : Operand} {ty : TypeId} {z : TypeId} :
    EffOp P G (.binOp op t x y z) ty [.c (.agg cx), .c (.agg cy)] [] (.c (.v (.bool r))) [] := by
  intro Z w Eo ac o next Q ho hty hg hzl hl hargs hgs hnext
  subst hx; subst hy
  have e1 : ac.eval x = .agg xs.toArray := by
    have := hargs 0 _ x rfl rfl
    cases this with | c _ _ h => exact agg_vals h
  have e2 : ac.eval y = .agg ys.toArray := by
    have := hargs 1 _ y rfl rfl
    cases this with | c _ _ h => exact agg_vals h
  have hex : (execOp ac.eval o).run P w = .ok (.value (.bool r)) w := by
    obtain ⟨dst, op, type, pos, after, guard⟩ := o
    simp only at ho
    subst ho
    simp only [execOp, e1, e2, Sem.run_bind, run_eqGuard_agg w _ t x y _ _ hm, hrun, Result.andThen_ok, Sem.run_pure]
  exact wp_value hex (hnext _ Z w Eo (effpost_same hg hzl (.c _ _ (.v _))))

theorem objL_two (g h : Nat) (o p : AObj) (j : Nat) : objL [(g, o), (h, p)] j = if j = 0 then (g, o) else if j = 1 then (h, p) else (0, .none) := by
  match j with
  | 0 => rfl
  | 1 => rfl
  | j + 2 => simp [objL]
/-- A new variable of a slice's type: it holds a slice of the call's own without elements. -/
theorem eff_allocS {t e : TypeId} {i ie : TI} (ht : TOk1 P t i) (hz : i.zero = [.slice none 0 0]) (hagg : i.isAgg = false) (hsz : 0 < ie.size) {ty : TypeId} :
    EffOp P G (.alloc t) ty [] [] (.pm 0 1 0) [(1, .varx [.rs 1 1]), (1, .arr e ie.size [] none)] := by
  intro Z w Eo ac o next Q ho hty hg hzl hl hargs hgs hnext
  obtain ⟨j, hj, hjs, _, hjz⟩ := ht.infoE
  have hzv : zeroVal i = .slice none 0 0 := by simp [zeroVal, hagg, hz]
  have hex : (execOp ac.eval o).run P w = .ok (.value (.pointer (some ⟨w.heap.size, 0, none⟩))) (w.alloc (.cells #[.slice none 0 0] t (0, 0))) := by
    obtain ⟨dst, op, type, pos, after, guard⟩ := o
    simp only at ho
    subst ho
    simp [execOp, Instr.alloc, zeroValue, typeInfo, hj, hjz, newVar, newRow, hzv, Value.cells]
  let Er : Nat → Value := fun j => if j = 0 then .pointer (some ⟨w.heap.size, 0, none⟩) else .slice none 0 0
  refine wp_value hex (hnext _ Z _ Er ?_)
  have hnew : (w.alloc (.cells #[.slice none 0 0] t (0, 0))).heap[w.heap.size]? = some (.cells #[.slice none 0 0] t (0, 0)) := (MapKept.heap_alloc w _).1
  have hblk : ∀ j b, (objL [(1, AObj.varx [.rs 1 1]), (1, .arr e ie.size [] none)] j).2.blk (Er j) b → j = 0 ∧ b = w.heap.size := fun j b hb => by
    rw [objL_two] at hb
    by_cases h0 : j = 0
    · subst h0; simp [Er, AObj.blk] at hb; exact ⟨rfl, hb.symm⟩
    · rw [if_neg h0] at hb
      by_cases h1 : j = 1
      · subst h1; simp [Er, AObj.blk] at hb
      · rw [if_neg h1] at hb; simp [AObj.blk] at hb
  exact
    { res := .pm 0 1 0 _ ⟨_, rfl⟩ (Nat.le_refl _) fun _ => ⟨w.heap.size, rfl, rfl⟩
      grp := ⟨fun j => by
          rw [objL_two]
          by_cases h0 : j = 0
          · subst h0
            rw [if_pos rfl]
            refine ⟨w.heap.size, t, #[.slice none 0 0], rfl, hnew, rfl, fun k c hk => ?_, fun o hz' => absurd (hzl _ _ hz') (Nat.lt_irrefl _), .none fun k c hk => by match k, hk with | 0, hk => simp at hk; subst hk; rfl | k + 1, hk => simp at hk⟩
            match k, hk with
            | 0, hk =>
              simp at hk
              subst hk
              exact ⟨rfl, _, rfl, .one (.rs 1 1 _ ⟨_, _, _, rfl⟩ (Nat.le_refl _) fun _ _ _ _ _ => rfl)⟩
            | k + 1, hk => simp at hk
          · rw [if_neg h0]
            by_cases h1 : j = 1
            · subst h1
              rw [if_pos rfl]
              refine ⟨[], hsz, World.ownsRow_nil _ _ _ _, And.intro (fun _ _ h => nomatch h) (fun i d h => by simp at h), fun i d hi => by simp at hi, fun i d hi => by simp at hi, fun b o hb => by simp [Er, Value.ownBlock] at hb⟩
            · rw [if_neg h1]; trivial,
        fun j j' b hne h1 h2 => hne ((hblk j b h1).1.trans (hblk j' b h2).1.symm)⟩
      keeps := Keeps.alloc hzl _
      zlt := fun b o hz => by have := hzl b o hz; simp; omega
      znew := fun _ _ h => .inl h
      kept := (Kept.refl _ _).alloc (fun _ h => h.1) _
      own := fun b ⟨j, hj⟩ => .inl (by have := (hblk j b hj).2; omega)
      ok :=
        { gen := fun t => by simp [objL]
          var := fun t g hg hlv => by
            obtain ⟨cs, hlv⟩ := hlv
            rw [objL_two] at hlv
            by_cases h0 : t = 0
            · rw [if_pos h0] at hlv; simp at hlv; simp [objL] at hg; omega
            · rw [if_neg h0] at hlv
              by_cases h1 : t = 1
              · rw [if_pos h1] at hlv; simp at hlv
              · rw [if_neg h1] at hlv; simp at hlv
          ext := fun t g K cs hg hlv => by
            rw [objL_two] at hlv
            by_cases h0 : t = 0
            · rw [if_pos h0] at hlv; simp at hlv
            · rw [if_neg h0] at hlv
              by_cases h1 : t = 1
              · rw [if_pos h1] at hlv; simp at hlv
              · rw [if_neg h1] at hlv; simp at hlv
          tok := fun t g el s hg hlv => by
            rw [objL_two] at hlv
            by_cases h0 : t = 0
            · rw [if_pos h0] at hlv; simp at hlv
            · rw [if_neg h0] at hlv
              by_cases h1 : t = 1
              · rw [if_pos h1] at hlv; simp at hlv
              · rw [if_neg h1] at hlv; simp at hlv
          arr := fun t g el sz ds foc hg hlv => by
            rw [objL_two] at hlv
            by_cases h0 : t = 0
            · rw [if_pos h0] at hlv; simp at hlv
            · rw [if_neg h0] at hlv
              by_cases h1 : t = 1
              · rw [if_pos h1] at hlv; simp at hlv; simp [objL] at hg; omega
              · rw [if_neg h1] at hlv; simp at hlv
          map := fun t g es hg hlv => by
            rw [objL_two] at hlv
            by_cases h0 : t = 0
            · rw [if_pos h0] at hlv; simp at hlv
            · rw [if_neg h0] at hlv
              by_cases h1 : t = 1
              · rw [if_pos h1] at hlv; simp at hlv
              · rw [if_neg h1] at hlv; simp at hlv } }
end
end Go.Abs

/-
  More of what is known of operations: slices of the call's own that are made and appended to, in their place.
-/
namespace Go.Abs
open Go Go.RowKit

section
variable {P : Program} {G : World → Prop} {Z : Zone} {w : World}
/-- One object, made new or come back elsewhere. -/
theorem effpost_new {os : List (Nat × AObj)} {Eo : Nat → Value} {o' : AObj} {E1 : Value} {w' : World} {r : SV} {x : Value} (hos : os = [] ∨ ∃ o, os = [(0, o)])
    (hz : ∀ b o, Z b o → b < w.heap.size) (hkeep : Keeps Z w Z w') (hsz : w.heap.size ≤ w'.heap.size) (hk : Kept (SG w os Eo) w w') (hok : ObjOk Z w' (objL [(1, o')]) (fun _ => E1) E1 o')
    (hblk : ∀ b, o'.blk E1 b → w.heap.size ≤ b ∨ GB os Eo b) (hr : RepS Z w' (objL [(1, o')]) (fun _ => E1) r x) : EffPost Z w os Eo Z w' [(1, o')] (fun _ => E1) r x := by
  have hgen : ∀ t, (objL os t).1 = 0 := fun t => by
    rcases hos with rfl | ⟨o, rfl⟩
    · simp [objL]
    · rw [objL_one]; split <;> rfl
  have hlow : ∀ t g o, g ≤ (objL os t).1 → objL [(1, o')] t = (g, o) → o = .none := fun t g o hg hl => by
    rw [hgen] at hg
    rw [objL_one] at hl
    by_cases ht : t = 0
    · rw [if_pos ht] at hl; simp at hl; omega
    · rw [if_neg ht] at hl; simp at hl; exact hl.2.symm
  exact
    { res := hr
      grp := ⟨fun j => by
          rw [objL_one]
          by_cases hj : j = 0
          · rw [if_pos hj]; exact hok
          · rw [if_neg hj]; trivial,
        fun j j' b hne h1 h2 => hne ((one_obj (Eo := fun _ => E1) h1).1.trans (one_obj (Eo := fun _ => E1) h2).1.symm)⟩
      keeps := hkeep
      zlt := fun b o h => Nat.lt_of_lt_of_le (hz b o h) hsz
      znew := fun _ _ h => .inl h
      kept := hk
      own := fun b ⟨j, hj⟩ => hblk b (one_obj (Eo := fun _ => E1) hj).2
      ok :=
        { gen := fun t => by rw [hgen]; exact Nat.zero_le _
          var := fun t g hg hl => by
            obtain ⟨cs, hl⟩ := hl
            rcases hl with h | h | h <;> exact absurd (hlow t g _ hg h) (by simp)
          ext := fun t g K cs hg hl => absurd (hlow t g _ hg hl) (by simp)
          tok := fun t g el s hg hl => absurd (hlow t g _ hg hl) (by simp)
          arr := fun t g el sz ds foc hg hl => absurd (hlow t g _ hg hl) (by simp)
          map := fun t g es hg hl => absurd (hlow t g _ hg hl) (by simp) } }

/-- The object of a slice of closed elements. -/
theorem arr_ok {e sz : Nat} {α : Type} {cf : α → List CV} {l : List α} (hcf : ∀ x, (cf x).length = sz) {v : Value} {xs : List Value} {obj : Objs} {E : Nat → Value} (hsz : 0 < sz) (hown : w.ownsRow 0 e sz v l.length xs)
    (hc : ∀ (i j : Nat) (a : α) (c : CV), l[i]? = some a → (cf a)[j]? = some c → c.atom = true ∧ ∃ u, xs[i * sz + j]? = some u ∧ Rep Z w c u) (hz : ∀ b o, v.ownBlock = some b → ¬ Z b o) :
    ObjOk Z w obj E v (.arr e sz (l.map cf) none) := by
  have hget : ∀ (i : Nat) (d : List CV), (l.map cf)[i]? = some d → ∃ a, l[i]? = some a ∧ d = cf a := fun i d h => by
    rw [List.getElem?_map] at h
    cases ha : l[i]? with
    | none => rw [ha] at h; simp at h
    | some a => rw [ha] at h; simp at h; exact ⟨a, rfl, h.symm⟩
  refine ⟨xs, hsz, by simpa using hown, And.intro (fun _ _ h => nomatch h) (fun i d hd _ => ?_), fun i d hi hd => ?_, fun i d hi hd j c hj => ?_, hz⟩
  · obtain ⟨a, ha, rfl⟩ := hget i d hd
    exact noRs_mk fun j c hj => (hc i j a c ha hj).2.choose_spec.2.notRs
  · obtain ⟨a, ha, rfl⟩ := hget i d hd
    exact hcf a
  · obtain ⟨a, ha, rfl⟩ := hget i d hd
    obtain ⟨h1, u, h2, h3⟩ := hc i j a c ha hj
    exact ⟨h1, u, h2, .cl h3⟩

theorem eff_nilS {e : TypeId} {ie : TI} (hsz : 0 < ie.size) {ty : TypeId} : EffOp P G (.assign (.const (.slice .none 0 0))) ty [.c (.sl 0 [])] [] (.rs 0 1) [(1, .arr e ie.size [] none)] := by
  intro Z w Eo ac o next Q ho hty hg hzl hl hargs hgs hnext
  have hex : (execOp ac.eval o).run P w = .ok (.value (.slice none 0 0)) w := by
    obtain ⟨dst, op, type, pos, after, guard⟩ := o
    simp only at ho
    subst ho
    simp [execOp, Act.eval]
  refine wp_value hex (hnext _ Z w (fun _ => .slice none 0 0) (effpost_new (.inl rfl) hzl (Keeps.refl _ _) (Nat.le_refl _) (Kept.refl _ _) ?_ (fun b hb => by simp [AObj.blk] at hb) (.rs 0 1 _ ⟨_, _, _, rfl⟩ (Nat.le_refl _) fun _ _ _ _ _ => rfl)))
  exact ⟨[], hsz, World.ownsRow_nil _ _ _ _, And.intro (fun _ _ h => nomatch h) (fun i d h => by simp at h), fun i d hi => by simp at hi, fun i d hi => by simp at hi, fun b o hb => by simp [Value.ownBlock] at hb⟩

theorem eff_append {α : Type} {t e : TypeId} {i : TI} {cf : α → List CV} {l ns : List α} (ht : P.underlying t = some (.slice e)) (hi : TOk1 P e i) (h1 : 1 ≤ i.size) (hby : i.bytes ≤ 4096) (hcf : ∀ x, (cf x).length = i.size)
    (hle : decide (l.length + ns.length ≤ 4294967296) = true) {x y : Operand} {ty : TypeId} :
    EffOp P G (.call ⟨.builtin .append, ⟨[x, y]⟩, ⟨[t, t]⟩⟩) ty [.rs 0 0, .c (.sl i.size (ns.map cf))] [(0, .arr e i.size (l.map cf) none)] (.rs 0 1) [(1, .arr e i.size ((l ++ ns).map cf) none)] := by
  intro Z w Eo ac o next Q ho hty hg hzl hl hargs hgs hnext
  have hle := of_decide_eq_true hle
  have hx := hargs 0 (.rs 0 0) x rfl rfl
  have hy : Rep Z w (.sl i.size (ns.map cf)) (ac.eval y) := by
    have := hargs 1 (.c (.sl i.size (ns.map cf))) y rfl rfl
    cases this with | c _ _ h => exact h
  obtain ⟨xs, hszp, hown, hfoc, hlens, hcells, hnz⟩ := hg.ok 0
  have hE : Eo 0 = ac.eval x ∧ ∃ aa q k, ac.eval x = .slice aa q k := by
    generalize ac.eval x = v at hx
    cases hx with | rs _ _ _ hs _ hp => exact ⟨hp _ _ _ _ rfl, hs⟩
  obtain ⟨hE, hslx⟩ := hE
  rw [hE] at hown hnz
  obtain ⟨news, hnl, hone, hyv, hcell⟩ := closed_news (sz := i.size) (by omega) (fun m hm => by obtain ⟨a, _, rfl⟩ := List.mem_map.1 hm; exact hcf a) hy
  obtain ⟨j, hj, hjs, hjb, hjz⟩ := hi.infoE
  have hzc : (zeroVal i).cells.size = i.size := by rw [zero_cells hi]; simp [hi.len]
  simp only [List.length_map] at hown hnl hyv
  have hbytes : (l.length + ns.length) * j.bytes ≤ 140737488355328 := by
    rw [hjb]
    calc (l.length + ns.length) * i.bytes ≤ 4294967296 * 4096 := Nat.mul_le_mul hle hby
      _ ≤ 140737488355328 := by decide
  obtain ⟨v', w', hrun, hown', hgr, hblk, hs'⟩ := app_core (P := P) (ty := ty) ht hj hjz hjs hzc h1 hown hslx hnl hone hyv (by omega) hbytes (Nat.zero_le _)
  have hex : (execOp ac.eval o).run P w = .ok (.value v') w' := by
    obtain ⟨dst, op, type, pos, after, guard⟩ := o
    simp only at ho hty
    subst ho; subst hty
    rw [exec_builtin]
    simp only [builtin, Sem.run_bind, List.map_toArray, List.map_cons, List.map_nil, hrun]
    rfl
  have hkeep : Keeps Z w Z w' := fun b o hz => ⟨hz, keep_heap (hgr.block b (hzl b o hz) (fun e => hnz b o e.symm hz))⟩
  have hgb : ∀ b, (ac.eval x).ownBlock = some b → GB [(0, .arr e i.size (l.map cf) none)] Eo b := fun b hb => ⟨0, by rw [hE]; rw [← arr_blk (ac.eval x) e i.size (l.map cf) none] at hb; exact hb⟩
  refine wp_value hex (hnext _ Z w' (fun _ => v') (effpost_new (.inr ⟨_, rfl⟩) hzl hkeep hgr.size ((Kept.refl _ _).grown hgr (fun k h => h.1) (fun k hk h => h.2 (hgb k hk)) (fun k hk => by obtain ⟨cur, hc⟩ := own_cells hown hk; rw [hc]; exact fun h => nomatch h)) ?_ (fun b hb => ?_) (.rs 0 1 _ hs' (Nat.le_refl _) fun _ _ _ _ _ => rfl)))
  · refine arr_ok hcf (by omega) (by simpa using hown') (fun i' j' a c ha hc => ?_) (fun b o hb hz => ?_)
    · have hjl : j' < i.size := by rw [← hcf a]; exact (List.getElem?_eq_some_iff.1 hc).1
      rw [get_app hown.1 hjl]
      by_cases hil : i' < l.length
      · rw [List.getElem?_append_left hil] at ha
        rw [if_pos hil]
        have hd : (l.map cf)[i']? = some (cf a) := by rw [List.getElem?_map, ha]; rfl
        obtain ⟨q1, u, q2, q3⟩ := hcells i' (cf a) (by simpa using hil) hd j' c hc
        exact ⟨q1, u, q2, (q3.closed (noRs_get (hfoc.2 i' (cf a) hd (fun _ _ h => nomatch h)) hc)).keep hkeep⟩
      · rw [List.getElem?_append_right (by omega)] at ha
        rw [if_neg hil]
        obtain ⟨q1, u, q2, q3⟩ := hcell (i' - l.length) j' (cf a) c (by rw [List.getElem?_map, ha]; rfl) hc
        exact ⟨q1, u, q2, q3.keep hkeep⟩
    · rcases hblk with hb1 | hb1
      · exact hnz b o (by rw [← hb1]; exact hb) hz
      · rw [hb1] at hb; injection hb with hb; have := hzl b o hz; omega
  · rw [arr_blk] at hb
    rcases hblk with hb1 | hb1
    · exact .inr (hgb b (by rw [← hb1]; exact hb))
    · rw [hb1] at hb; injection hb with hb; exact .inl (by omega)
/-- A slice literal without elements; of one element of one cell. -/
theorem eff_build0 {t e : TypeId} {i : TI} (ht : P.underlying t = some (.slice e)) (hi : TOk1 P e i) (h1 : 1 ≤ i.size) {ty : TypeId} :
    EffOp P G (.buildSlice t 0 ⟨[]⟩) ty [] [] (.rs 0 1) [(1, .arr e i.size [] none)] := by
  intro Z w Eo ac o next Q ho hty hg hzl hl hargs hgs hnext
  have hex : (execOp ac.eval o).run P w = .ok (.value (.slice (some ⟨w.heap.size, 0, none⟩) 0 0)) (w.alloc (.cells #[] e)) := by
    obtain ⟨dst, op, type, pos, after, guard⟩ := o
    simp only at ho
    subst ho
    simp only [execOp, Instr.buildSlice, Sem.run_bind, run_underlying ht, Result.andThen_ok, hi.sizeOf w, Nat.zero_mul, Sem.run_pure]
    rw [if_neg (by decide), if_pos trivial]
    have hr : Array.range 0 = #[] := by simp
    simp only [Sem.run_bind, Sem.run_pure, Result.andThen_ok, Instr.fill, Array.map_empty, hr]
    rfl
  have hown := World.ownsRow_lit (base := 0) (e := e) (size := i.size) w #[] 0 (Nat.zero_le _) (by simp only [maxLen]; omega) (by simp)
  refine wp_value hex (hnext _ Z _ (fun _ => .slice (some ⟨w.heap.size, 0, none⟩) 0 0) (effpost_new (.inl rfl) hzl (Keeps.alloc hzl _) (by simp) ((Kept.refl _ _).alloc (fun _ h => h.1) _) ?_ (fun b hb => ?_) (.rs 0 1 _ ⟨_, _, _, rfl⟩ (Nat.le_refl _) fun _ _ _ _ _ => rfl)))
  · exact ⟨[], h1, hown, And.intro (fun _ _ h => nomatch h) (fun i d h => by simp at h), fun i d hi => by simp at hi, fun i d hi => by simp at hi, fun b o hb hz => by
      simp [Value.ownBlock] at hb
      have := hzl b o hz
      omega⟩
  · simp [AObj.blk] at hb
    exact .inl (by omega)
theorem eff_build1 {α : Type} {t e : TypeId} {i : TI} {cf : α → List CV} {a : α} (ht : P.underlying t = some (.slice e)) (hi : TOk1 P e i) (h1 : i.size = 1) {c : CV} (hc : cf a = [c]) (hcf : ∀ x, (cf x).length = 1) (hat : c.atom = true) (hcell : ∀ Z w x, Rep Z w c x → x.cells = #[x]) {x : Operand} {ty : TypeId} :
    EffOp P G (.buildSlice t 1 ⟨[(0, x)]⟩) ty [.c c] [] (.rs 0 1) [(1, .arr e i.size ([a].map cf) none)] := by
  intro Z w Eo ac o next Q ho hty hg hzl hl hargs hgs hnext
  have hx : Rep Z w c (ac.eval x) := by
    have := hargs 0 (.c c) x rfl rfl
    cases this with | c _ _ h => exact h
  have hxc := hcell Z w _ hx
  obtain ⟨j, hj, hjs, hjb, hjz⟩ := hi.infoE
  have hzc : (zeroVal i).cells.size = 1 := by rw [zero_cells hi]; simp [hi.len, h1]
  have hzv : (zeroValue e).run P w = .ok (zeroVal i) w := by simp [zeroValue, typeInfo, hj, hjz]
  have hex : (execOp ac.eval o).run P w = .ok (.value (.slice (some ⟨w.heap.size, 0, none⟩) 1 1)) (w.alloc (.cells #[ac.eval x] e)) := by
    obtain ⟨dst, op, type, pos, after, guard⟩ := o
    simp only at ho
    subst ho
    simp only [execOp, Instr.buildSlice, Sem.run_bind, run_underlying ht, Result.andThen_ok, hi.sizeOf w, h1, Sem.run_pure]
    have hr : Array.range 1 = #[0] := by decide
    simp only [hr]
    simp [hzv, Instr.fill, hxc, newRow]
  have hown := World.ownsRow_lit (base := 0) (e := e) (size := i.size) w #[ac.eval x] 1 (Nat.zero_le _) (by simp only [maxLen]; omega) (by simp [h1])
  refine wp_value hex (hnext _ Z _ (fun _ => .slice (some ⟨w.heap.size, 0, none⟩) 1 1) (effpost_new (.inl rfl) hzl (Keeps.alloc hzl _) (by simp) ((Kept.refl _ _).alloc (fun _ h => h.1) _) ?_ (fun b hb => ?_) (.rs 0 1 _ ⟨_, _, _, rfl⟩ (Nat.le_refl _) fun _ _ _ _ _ => rfl)))
  · refine arr_ok (l := [a]) (fun x => by rw [hcf, h1]) (by omega) hown (fun i' j' a' c' ha hc' => ?_) (fun b o hb hz => by
      simp [Value.ownBlock] at hb
      have := hzl b o hz
      omega)
    match i', ha with
    | 0, ha =>
      simp at ha
      subst ha
      rw [hc] at hc'
      match j', hc' with
      | 0, hc' =>
        simp at hc'
        subst hc'
        exact ⟨hat, _, by simp, hx.keep (Keeps.alloc hzl _)⟩
      | n + 1, hc' => simp at hc'
    | n + 1, ha => simp at ha
  · simp [AObj.blk] at hb
    exact .inl (by omega)
end
/-- Both, if they agree. -/
def oboth {α : Type} [DecidableEq α] (x y : Option α) : Option α := if x = y then x else none
theorem nilc {α β γ : Type} [DecidableEq α] {l : List β} {cf : β → γ} {x y : Option α} {r : α} {K : Bool → Prop} (h : (bif l.isEmpty then oboth x y else y) = some r) (h1 : x = some r → K true) (h2 : y = some r → K false) :
    ∀ b, (b = true → l.map cf = []) → K b := by
  intro b hb
  cases b with
  | false =>
    refine h2 ?_
    cases l with
    | nil =>
      simp only [List.isEmpty_nil, cond_true, oboth] at h
      split at h
      · rename_i he; rw [← he]; exact h
      · cases h
    | cons a l => exact h
  | true =>
    have := hb rfl
    cases l with
    | nil =>
      simp only [List.isEmpty_nil, cond_true, oboth] at h
      split at h
      · exact h1 h
      · cases h
    | cons a l => simp at this
end Go.Abs
