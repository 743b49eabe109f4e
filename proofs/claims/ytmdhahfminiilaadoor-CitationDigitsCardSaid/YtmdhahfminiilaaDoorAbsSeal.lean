/-
  A call that hands a slice of its own over and gets back a slice that may share its memory: the slice is its own no more.
-/
import Derived.Test.YtmdhahfminiilaaDoorAbsOpG
namespace Go.Abs
open Go Go.RowKit
section
variable {P : Program} {G : World → Prop}
theorem grp_arr {Z : Zone} {w : World} {os : List (Nat × AObj)} {Eo : Nat → Value} (hg : Grp Z w os Eo) {j g el sz : Nat} {ds : List (List CV)} {ts : List Nat} (ho : objL os j = (g, .arr el sz ds none)) (ht : j ∈ ts) {x : Value} (hE : Eo j = x) :
    Rep (Zf Z (objL os) Eo ts) w (.sl sz ds) x := by
  have hk : Keeps Z w (Zf Z (objL os) Eo ts) w := Zf_of _ _ _
  have hot := hg.ok j
  rw [ho] at hot
  obtain ⟨xs, hsz, hown, hfoc, hdl, hcl, hz⟩ := hot
  rw [hE] at hown
  refine rep_own hown rfl (fun i d hd => hdl i d (List.getElem?_eq_some_iff.1 hd).1 hd) (fun i j d c h1 h2 => ?_) (fun b o hb _ => .inr ⟨j, ht, by rw [ho, hE, arr_blk]; exact hb⟩)
  obtain ⟨hat, u, hu, hr⟩ := hcl i d (List.getElem?_eq_some_iff.1 h1).1 h1 j c h2
  exact ⟨hat, u, hu, (hr.closed (noRs_get (hfoc.2 i d h1 (fun m d' he => by cases he)) h2)).keep hk⟩
theorem effn_seal {f : FuncId} {el sz : Nat} {es : List (List CV)} {r : CV} (hp : r.pure = true) (h : Holds P G f [.sl sz es] r) : EffFn P G f [.rs 0 0] [(0, .arr el sz es none)] (.c r) [(1, .spent)] := by
  refine ⟨h.1, fun Z w Eo vs hg hzl hl hargs hgs => ?_⟩
  match vs, hl, hargs with
  | [x], _, hargs =>
    have hx := hargs 0 (.rs 0 0) x rfl rfl
    have hE : Eo 0 = x := by
      cases hx with
      | rs _ _ _ _ _ h => exact h _ _ _ _ rfl
    have ho : objL [(0, AObj.arr el sz es none)] 0 = (0, .arr el sz es none) := rfl
    have hrep := grp_arr hg ho (ts := [0]) (by simp) hE
    have hlt : ∀ b, GB [(0, AObj.arr el sz es none)] Eo b → b < w.heap.size := fun b ⟨j, hj⟩ => (hg.ok j).lt hj
    have hzlt : ∀ b o, Zf Z (objL [(0, AObj.arr el sz es none)]) Eo [0] b o → b < w.heap.size := fun b o hz => hz.elim (hzl b o) fun ⟨s, _, hb⟩ => hlt b ⟨s, hb⟩
    have hS : ∀ k, SG w [(0, AObj.arr el sz es none)] Eo k → k < w.heap.size := fun k hk => hk.1
    refine (h.2 _ w [x] (RepL.cons hrep (RepL.nil _ _)) hzlt (fun w1 hb1 => hgs w1 (.of_below hb1 hS))).mono ?_
    rintro e w' ⟨x', Z', rfl, hrr, hsub, hnew, hbel⟩
    refine ⟨x', Z', Eo, rfl, ?_⟩
    have hnb : ∀ j b, ¬ (objL [(1, AObj.spent)] j).2.blk (Eo j) b := fun j b hb => by
      match j, hb with
      | 0, hb => simp [objL, AObj.blk] at hb
      | j + 1, hb => simp [objL, AObj.blk] at hb
    exact
      { res := .c _ _ (hrr.pure hp)
        grp := ⟨fun j => by
            match j with
            | 0 => trivial
            | j + 1 => trivial, fun j j' b _ h1 => absurd h1 (hnb j b)⟩
        keeps := fun b o hz => ⟨hsub b o (.inl hz), keep_heap (hbel.block b (hzl b o hz))⟩
        zlt := fun b o hz => (hnew b o hz).2
        znew := fun b o hz => by
          rcases (hnew b o hz).1 with h1 | h1
          · rcases h1 with h1 | ⟨s, _, hb⟩
            · exact .inl h1
            · exact .inr (.inr ⟨s, hb⟩)
          · exact .inr (.inl h1)
        kept := .of_below hbel hS
        own := fun b ⟨j, hj⟩ => absurd hj (hnb j b)
        ok :=
          { gen := fun t => by
              match t with
              | 0 => simp [objL]
              | t + 1 => simp [objL]
            var := fun t g _ hlv => by
              obtain ⟨cs, hlv⟩ := hlv
              match t, hlv with
              | 0, hlv => simp [objL] at hlv
              | t + 1, hlv => simp [objL] at hlv
            ext := fun t g K cs _ hlv => by
              match t, hlv with
              | 0, hlv => simp [objL] at hlv
              | t + 1, hlv => simp [objL] at hlv
            tok := fun t g el s _ hlv => by
              match t, hlv with
              | 0, hlv => simp [objL] at hlv
              | t + 1, hlv => simp [objL] at hlv
            arr := fun t g el sz ds foc _ hlv => by
              match t, hlv with
              | 0, hlv => simp [objL] at hlv
              | t + 1, hlv => simp [objL] at hlv
            map := fun t g es _ hlv => by
              match t, hlv with
              | 0, hlv => simp [objL] at hlv
              | t + 1, hlv => simp [objL] at hlv } }
/-- A part of a result of several parts, some of which are the call's own. -/
theorem eff_extract {x : Operand} {k : Nat} {ty : TypeId} {cs : List CV} {c : CV} {os : List (Nat × AObj)} (hc : cs[k]? = some c) : EffOp P G (.extract x k) ty [.tpx cs] os (svOf c) os := by
  intro Z w Eo a o next Q ho hty hg hzl hl hargs hgs hnext
  have hx := hargs 0 (.tpx cs) x rfl rfl
  obtain ⟨dst, op, type, pos, after, guard⟩ := o
  simp only at ho hty
  subst ho
  subst hty
  generalize hax : a.eval x = y at hx
  cases hx with
  | tpx _ us hl h ha =>
    have hlt : k < cs.length := (List.getElem?_eq_some_iff.1 hc).1
    have hu : us[k]? = some (us[k]'(by omega)) := List.getElem?_eq_getElem (by omega)
    have hex : (execOp a.eval ⟨dst, .extract x k, type, pos, after, guard⟩).run P w = .ok (.value (us[k]'(by omega))) w := by
      simp [execOp, hax, Instr.extract, hu]
    refine wp_value hex (hnext _ Z w Eo ?_)
    exact
      { res := svOf_rep (h k c _ hc hu) (fun cs e => by have := ha k c hc; rw [e] at this; simp [CV.atom] at this)
        grp := hg
        keeps := Keeps.refl _ _
        zlt := hzl
        znew := fun _ _ hz => .inl hz
        kept := Kept.refl _ _
        own := fun _ hb => .inr hb
        ok := ObjKeep.refl _ _ }
/-- A method that is bound to its receiver. -/
theorem eff_bind {f : FuncId} {x : Operand} {c : CV} {ty : TypeId} : EffOp P G (.makeFunc (.func f) ⟨[x]⟩ ⟨[]⟩) ty [.c c] [] (.fnr (.bd f) [.c c]) [] := by
  intro Z w Eo a o next Q ho hty hg hzl hl hargs hgs hnext
  have hx := hargs 0 (.c c) x rfl rfl
  obtain ⟨dst, op, type, pos, after, guard⟩ := o
  simp only at ho hty
  subst ho
  subst hty
  have hex : (execOp a.eval ⟨dst, .makeFunc (.func f) ⟨[x]⟩ ⟨[]⟩, type, pos, after, guard⟩).run P w = .ok (.value (.func (.func f) #[a.eval x] #[])) w := by
    simp [execOp, Instr.makeFunc]
  refine wp_value hex (hnext _ Z w Eo ?_)
  exact
    { res := RepS.fnr (.bd f) [.c c] [a.eval x] trivial rfl (fun i s v h1 h2 => by
        match i, h1, h2 with
        | 0, h1, h2 => simp at h1 h2; subst h1; subst h2; exact hx
        | i + 1, h1, _ => simp at h1)
      grp := hg
      keeps := Keeps.refl _ _
      zlt := hzl
      znew := fun _ _ hz => .inl hz
      kept := Kept.refl _ _
      own := fun _ hb => .inr hb
      ok := ObjKeep.refl _ _ }
/-- A call of such a method. -/
theorem eff_callB {c : Call} {ty : TypeId} {fo : Operand} (hc : c.callee = .value fo) {f : FuncId} {recv as : List SV} {os os' : List (Nat × AObj)} {r : SV} (h : EffFn P G f (recv ++ as) os r os') : EffOp P G (.call c) ty (.fnr (.bd f) recv :: as) os r os' := by
  obtain ⟨⟨fn, hfn, hnm, hbd⟩, h⟩ := h
  intro Z w Eo a o next Q ho hty hg hz hl hargs hgs hnext
  obtain ⟨dst, op, type, pos, after, guard⟩ := o
  simp only at ho hty
  subst ho
  subst hty
  have hops : (Op.call c).operands = #[fo] ++ c.args := by simp [Op.operands, Call.operands, hc]
  rw [hops] at hl hargs
  have hfv := hargs 0 (.fnr (.bd f) recv) fo rfl (by rw [Array.getElem?_append_left (Nat.zero_lt_one)]; rfl)
  have hcap : ∃ cv : List Value, a.eval fo = .func (.func f) cv.toArray #[] ∧ recv.length = cv.length ∧ ∀ (i : Nat) (s : SV) (x : Value), recv[i]? = some s → cv[i]? = some x → RepS Z w (objL os) Eo s x := by
    generalize a.eval fo = y at hfv
    cases hfv with
    | fnr _ _ vs _ hl hh => exact ⟨vs, rfl, hl, hh⟩
  obtain ⟨cv, hcv, hcl, hcr⟩ := hcap
  have hal : as.length = c.args.toList.length := by simp at hl; simpa using (by omega : as.length = c.args.size)
  have hcalls := h Z w Eo (cv ++ c.args.toList.map a.eval) hg hz (by simp; simp at hal; omega) (fun i s x h1 h2 => by
    rcases Nat.lt_or_ge i recv.length with hlt | hge
    · rw [List.getElem?_append_left hlt] at h1
      rw [List.getElem?_append_left (by omega)] at h2
      exact hcr i s x h1 h2
    · rw [List.getElem?_append_right hge] at h1
      rw [List.getElem?_append_right (by omega), ← hcl, List.getElem?_map] at h2
      cases hk : c.args.toList[i - recv.length]? with
      | none => rw [hk] at h2; simp at h2
      | some op =>
        rw [hk] at h2; simp at h2; subst h2
        refine hargs (i - recv.length + 1) s op (by simpa using h1) ?_
        rw [Array.getElem?_append_right (by simp)]
        simpa using hk) hgs
  have hargsE : cv.toArray ++ c.args.map a.eval = (cv ++ c.args.toList.map a.eval).toArray := by
    apply Array.ext'
    simp
  have hrun : (execOp a.eval ⟨dst, .call c, type, pos, after, guard⟩).run P w = .ok (.enter f (cv ++ c.args.toList.map a.eval).toArray) w := by
    simp only [execOp, resolve, hc, Deferred.ofValue, hcv, invoke, callFunc, Sem.run_bind, Sem.run_pure, Result.andThen_ok, Array.append_empty, hargsE]
    have hnm' : ¬ (fn.name = "runtime.NumGoroutine") := by simpa using hnm
    have hbd' : ¬ (fn.body = none) := fun e => by rw [e] at hbd; cases hbd
    simp [Go.program, Sem.run, hfn, hnm', hbd']
  refine wpE_of_wp (fun _ h => nomatch h) ?_
  unfold Oper.wp
  rw [hrun]
  simp only [Oper.upon]
  refine hcalls.mono ?_
  rintro e w' ⟨x, Z', Eo', rfl, hp⟩
  exact hnext x Z' w' Eo' hp
end
end Go.Abs
