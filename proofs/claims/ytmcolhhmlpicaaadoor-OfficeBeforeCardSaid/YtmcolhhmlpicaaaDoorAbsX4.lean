/-
  Soundness of the operations on slices of the call's own that are written: literals, calls that hand such slices over; then all operations.
-/
import Derived.Test.YtmcolhhmlpicaaaDoorAbsX3
namespace Go.Abs
open Go Go.RowKit

section
variable {P : Program} {G : World → Prop} {T : Tab} {Z0 : Base} {w0 : World} {S : Nat → Prop} {n : Nat} {Z Z' : Zone} {E : Nat → Value} {st : St} {a : Act} {w w' : World}

theorem xsound_buildSlice (hT : TOk P T) (dst : Option Nat) (t : TypeId) (len : Nat) (parts : Array (Nat × Operand)) (type : TypeId) (pos : String) (after : Array Edge) (guard : Option (Nat × Bool)) : XSound P G T ⟨dst, .buildSlice t len parts, type, pos, after, guard⟩ := by
  intro Z0 w0 S n Z E st a w K next Q hI hd h hn
  simp only [wpX] at h
  split at h
  · rename_i e _ _ _ _ _ hti
    split at h
    · rename_i i d x hte hparts
      split at h
      · rename_i cs hlx
        replace h := bif_true h; obtain ⟨hchk, h⟩ := h
        simp only [Bool.and_eq_true] at hchk
        obtain ⟨⟨⟨⟨hlen, hcl⟩, h1⟩, h2⟩, hzl⟩ := hchk
        have := Nat.eq_of_beq_eq_true hlen
        subst this
        have hcl := Nat.eq_of_beq_eq_true hcl
        have h1 := Nat.le_of_ble_eq_true h1
        have h2 := Nat.le_of_ble_eq_true h2
        have hi := hT _ _ hte
        obtain ⟨j, hj, hjs, hjb, hjz⟩ := hi.infoE
        have hu := (hT _ _ hti).u
        simp only at hu
        have hx := look_rep hI x
        rw [hlx] at hx
        have hpa : parts = #[(0, x)] := by cases parts; simp_all
        subst hpa
        generalize hax : a.eval x = xv at hx
        cases hx with
        | agx _ vs hl hr ha =>
          have hvl : vs.length = i.size := by omega
          have hcells : (Value.agg vs.toArray).cells = vs.toArray := rfl
          let zero : Array Value := (zeroVal i).cells
          let z0 : Array Value := (Array.range (1 * i.size)).map (zero[· % zero.size]!)
          have hz0 : z0.size = i.size := by simp [z0]
          have hfold := foldl_set (0 * i.size) vs 0 z0 (by simp [hz0, hvl])
          have heq : vs.toArray.zipIdx.foldl (fun cs (p : Value × Nat) => cs.setIfInBounds (0 * i.size + p.2) p.1) z0 = (vs.zipIdx 0).foldl (fun cs (p : Value × Nat) => cs.setIfInBounds (0 * i.size + p.2) p.1) z0 := by
            rw [← Array.foldl_toList, Array.toList_zipIdx]
          let cells := (vs.zipIdx 0).foldl (fun cs (p : Value × Nat) => cs.setIfInBounds (0 * i.size + p.2) p.1) z0
          have hcs : cells.size = 1 * i.size := hfold.1.trans (by rw [hz0, Nat.one_mul])
          have hget : ∀ k, k < i.size → cells[k]? = vs[k]? := fun k hk => by
            refine (hfold.2 k).trans ?_
            rw [if_pos (by omega)]
            congr 1
            omega
          have hfill : Instr.fill (fun i' => some (i' * i.size, i.size)) z0 [(0, Value.agg vs.toArray)] = some cells := by
            simp only [Instr.fill, hcells]
            rw [if_neg (by simp [hz0, hvl])]
            rw [heq]
          have hlim : ¬ (1 * i.size > 2 ^ 24) := by omega
          have h0 : ¬ (1 * i.size = 0) := by omega
          have hrun : (execOp a.eval ⟨some d, .buildSlice t 1 #[(0, x)], type, pos, after, guard⟩).run P w = .ok (.value (.slice (some ⟨w.heap.size, 0, none⟩) 1 1)) (w.alloc (.cells cells e)) := by
            have hzv : (zeroValue e).run P w = .ok (zeroVal i) w := by simp [zeroValue, typeInfo, hj, hjz]
            have hfill' : Instr.fill (fun i' => some (i' * i.size, i.size)) ((Array.range (1 * i.size)).map ((zeroVal i).cells[· % (zeroVal i).cells.size]!)) (#[(0, x)].map fun (i, x) => (i, a.eval x)).toList = some cells := by
              simp only [List.map_toArray, List.map_cons, List.map_nil, hax]
              exact hfill
            simp only [execOp, Instr.buildSlice, Sem.run_bind, run_underlying hu, Result.andThen_ok, hi.sizeOf w, if_neg hlim, Sem.run_pure, if_neg h0, hzv, hfill']
            rfl
          have hown := World.ownsRow_lit (base := 0) (e := e) (size := i.size) w cells 1 (Nat.zero_le _) (by simp only [maxLen]; omega) hcs
          have hkeep : Keeps Z w Z (w.alloc (.cells cells e)) := Keeps.alloc hI.zlt _
          refine wp_value hrun (hn _ _ _ Z (setE E d (.slice (some ⟨w.heap.size, 0, none⟩) 1 1)) _ _ h ?_)
          refine hI.arrAt hd rfl (upd_one_same _ _ _) (fun t ht => .inl (upd_one_ne _ _ ht)) (below_alloc hI _) hkeep (fun b o hz => by have := hI.zlt b o hz; simp; omega) (fun _ _ hz => .inl hz) ⟨_, _, _, rfl⟩ (fun hkp => ?_) (fun b hb => by simp [Value.ownBlock] at hb; exact hI.fresh (by omega)) (fun t ht _ b hb => ?_)
          · refine ⟨cells.toList, h1, hown, ⟨(fun m d he => by cases he; simp), fun i' d' _ hne => ?_⟩, ?_, ?_, fun b o hb hz => ?_⟩
            · rename_i hd'
              have hi' : i' = 0 := by have := (List.getElem?_eq_some_iff.1 hd').1; simpa using this
              subst hi'
              exact absurd rfl (hne 0 cs rfl)
            · intro i' d' hi' hc'
              have : i' = 0 := by simpa using hi'
              subst this
              simp [cellX] at hc'
              subst hc'
              exact hcl
            · intro i' d' hi' hc' j' c hj'
              have : i' = 0 := by simpa using hi'
              subst this
              simp [cellX] at hc'
              subst hc'
              have hjl : j' < cs.length := (List.getElem?_eq_some_iff.1 hj').1
              have hv : vs[j']? = some (vs[j']'(by omega)) := List.getElem?_eq_getElem (by omega)
              refine ⟨ha j' c hj', _, ?_, (hr j' c _ hj' hv).keep hkeep hkp⟩
              rw [Nat.zero_mul, Nat.zero_add, Array.getElem?_toList, hget j' (by omega), hv]
            · simp [Value.ownBlock] at hb
              have := hI.zlt b o hz
              omega
          · have hlt := (hI.obj t).lt hb
            refine ⟨heap_alloc_old w _ hlt, fun _ hz => hz, ?_⟩
            simp [Value.ownBlock]
            omega
      · exact h.elim
    · exact h.elim
  · exact h.elim

theorem renO_get (obj : Objs) (d m : Nat) : ∀ (os : List (Nat × Nat × List (List CV) × Option (Nat × List CV))) (k : Nat) (t : Nat),
    (∀ j, j < os.length → t ≠ sig d (k + j)) → upd obj (renO obj d m k os) t = obj t
  | [], _, _, _ => rfl
  | (el, sz, ds, foc) :: r, k, t, h => by
    simp only [renO, upd]
    have h0 : sig d k ≠ t := fun e => h 0 (by simp) (by simpa using e.symm)
    have : Nat.beq (sig d k) t = false := by cases hb : Nat.beq (sig d k) t with | false => rfl | true => exact absurd (Nat.eq_of_beq_eq_true hb) h0
    rw [this]
    simp only [cond_false]
    refine renO_get obj d m r (k + 1) t fun j hj => ?_
    have := h (j + 1) (by simpa using hj)
    rwa [show k + 1 + j = k + (j + 1) from by omega]
theorem sig_inj {d j j' : Nat} (h : sig d j = sig d j') : j = j' := by unfold sig at h; omega
theorem renO_at (obj : Objs) (d m : Nat) : ∀ (os : List (Nat × Nat × List (List CV) × Option (Nat × List CV))) (k j : Nat) (el sz : Nat) (ds : List (List CV)) (foc : Option (Nat × List CV)),
    os[j]? = some (el, sz, ds, foc) → upd obj (renO obj d m k os) (sig d (k + j)) = ((obj (sig d (k + j))).1 + 1, .arr el sz ds (renF obj d m foc))
  | [], _, _, _, _, _, _, h => by simp at h
  | (el', sz', ds', foc') :: r, k, 0, el, sz, ds, foc, h => by
    simp at h
    obtain ⟨rfl, rfl, rfl, rfl⟩ := h
    simp [renO, upd]
  | (el', sz', ds', foc') :: r, k, j + 1, el, sz, ds, foc, h => by
    simp only [renO, upd]
    have : Nat.beq (sig d k) (sig d (k + (j + 1))) = false := by
      cases hb : Nat.beq (sig d k) (sig d (k + (j + 1))) with
      | false => rfl
      | true => have := sig_inj (Nat.eq_of_beq_eq_true hb); omega
    rw [this]
    simp only [cond_false]
    have := renO_at obj d m r (k + 1) j el sz ds foc (by simpa using h)
    rwa [show k + 1 + j = k + (j + 1) from by omega] at this

theorem xsound_call (c : Call) (hc : ∀ b, c.callee ≠ .builtin b) (dst : Option Nat) (type : TypeId) (pos : String) (after : Array Edge) (guard : Option (Nat × Bool)) : XSound P G T ⟨dst, .call c, type, pos, after, guard⟩ := by
  intro Z0 w0 S n Z E st a w K next Q hI hd h hn
  have hcall : wpXcall (orc P G) (look st) st.obj c dst K := by
    unfold wpX at h
    cases hcc : c.callee with
    | builtin b => exact absurd hcc (hc b)
    | value f => simp only [hcc] at h; exact h
    | invoke r m => simp only [hcc] at h; exact h
  clear h
  unfold wpXcall at hcall
  split at hcall
  · rename_i f args more d hargs
    split at hcall
    · rename_i cs ts hfr
      replace hcall := bif_true hcall
      obtain ⟨hte, r, os, hholds, hcall⟩ := hcall
      have htn : ts = [] := by simpa using hte
      subst htn
      split at hcall
      · rename_i s hren
        obtain ⟨hbody, hcalls⟩ := hholds
        obtain ⟨vs, hrl, hrun⟩ := call_prep hI hargs hfr hbody (some d) type pos after guard
        unfold Oper.wp
        rw [hrun]
        simp only [Oper.upon]
        have hzlt : ∀ b o, Zf Z st.obj E [] b o → b < w.heap.size := fun b o hz => hz.elim (hI.zlt b o) fun ⟨s, _, hb⟩ => (hI.obj s).lt hb
        refine (hcalls _ w _ hrl hzlt (fun w1 hb1 => hI.gs _ (hI.below.trans (.of_below hb1 hI.sltw)))).mono ?_
        rintro e w' ⟨x, Z'', rfl, hrep, hsub, hnew, hbel⟩
        obtain ⟨Eo, hobjs, hapart, hfrs, hsl, hfocs, hres⟩ := hrep
        have hbel0 : Kept S w w' := .of_below hbel hI.sltw
        have hkeep : Keeps Z w Z'' w' := fun b o hz => ⟨hsub b o (.inl hz), keep_heap (hbel.block b (hI.zlt b o hz))⟩
        have hnew' : ∀ b o, Z'' b o → (Z b o ∨ w.heap.size ≤ b) := fun b o hz => (hnew b o hz).1.imp (fun h => h.elim id (fun ⟨s, hs, _⟩ => by simp at hs)) id
        -- the objects that came
        let E' : Nat → Value := fun t => if d ≤ t ∧ (t - d) % 65536 = 0 ∧ (t - d) / 65536 < os.length then Eo ((t - d) / 65536) else E t
        have hE' : ∀ j, j < os.length → E' (sig d j) = Eo j := fun j hj => by
          have h1 : sig d j - d = 65536 * j := by unfold sig; omega
          have h2 : (65536 * j) / 65536 = j := by omega
          have h3 : (65536 * j) % 65536 = 0 := by omega
          show (if _ then _ else _) = _
          rw [h1, h2, h3, if_pos ⟨by unfold sig; omega, rfl, hj⟩]
        have hE'n : ∀ t, (∀ j, j < os.length → t ≠ sig d j) → E' t = E t := fun t ht => by
          show (if _ then _ else _) = _
          rw [if_neg]
          rintro ⟨h1, h2, h3⟩
          exact ht _ h3 (by unfold sig; omega)
        let obj' := upd st.obj (renO st.obj d os.length 0 os)
        have hob : ∀ j el sz ds foc, os[j]? = some (el, sz, ds, foc) → obj' (sig d j) = ((st.obj (sig d j)).1 + 1, .arr el sz ds (renF st.obj d os.length foc)) := fun j el sz ds foc hj => by
          have := renO_at st.obj d os.length os 0 j el sz ds foc hj
          simpa using this
        have hobn : ∀ t, (∀ j, j < os.length → t ≠ sig d j) → obj' t = st.obj t := fun t ht => renO_get st.obj d os.length os 0 t (fun j hj => by simpa using ht j hj)
        have hget : ∀ j, j < os.length → ∃ el sz ds foc, os[j]? = some (el, sz, ds, foc) := fun j hj => ⟨_, _, _, _, List.getElem?_eq_getElem hj⟩
        -- references
        have hx : ∀ (c : CV) (u : Value), c.isRs = false → (∀ j, c = .ow j → j < os.length) → RepX Z'' w' (obo os) Eo (own0 c) u → RepX Z'' w' obj' E' (renC st.obj d os.length c) u := by
          intro c u hcr hcj hr
          cases c with
          | ow j =>
            have hj := hcj j rfl
            obtain ⟨el, sz, ds, foc, hos⟩ := hget j hj
            simp only [own0] at hr
            cases hr with
            | one hr =>
              cases hr with
              | cl hr => cases hr
              | rs _ _ _ hs _ hE =>
                have hblt : Nat.blt j os.length = true := by simp [Nat.blt]; omega
                simp only [renC, hblt, cond_true]
                refine .one (.rs _ _ _ hs (by rw [hob j el sz ds foc hos]; exact Nat.le_refl _) fun _ _ _ _ _ => ?_)
                rw [hE' j hj]
                cases foc with
                | none => exact hE el sz ds none (by simp [obo, hos])
                | some p => obtain ⟨m, cs⟩ := p; exact hE el sz ds (some (m, cs.map own0)) (by simp [obo, hos])
          | rs t g => cases hcr
          | pr t g off => cases hcr
          | mr t g => cases hcr
          | fr f caps => cases hcr
          | _ => exact .cl (hr.closed rfl)
        have hobjk : ObjKeep st.obj E obj' E' → ∀ t, (∃ j, j < os.length ∧ t = sig d j) → ObjOk Z'' w' obj' E' (E' t) (obj' t).2 := by
          rintro _ t ⟨j, hj, rfl⟩
          obtain ⟨el, sz, ds, foc, hos⟩ := hget j hj
          rw [hob j el sz ds foc hos, hE' j hj]
          have ho := hobjs j
          cases foc with
          | none =>
            simp only [obo, hos] at ho
            obtain ⟨xs, h1, h2, h3, h4, h5, h6⟩ := ho
            refine ⟨xs, h1, h2, h3, h4, fun i' d' hi' hc' j' c hj' => ?_, h6⟩
            obtain ⟨q1, u, q2, q3⟩ := h5 i' d' hi' hc' j' c hj'
            have hcr := noRs_get (h3.2 i' d' hc' (fun _ _ h => nomatch h)) hj'
            exact ⟨q1, u, q2, .cl (q3.closed hcr)⟩
          | some p =>
            obtain ⟨m, cs⟩ := p
            simp only [obo, hos] at ho
            obtain ⟨xs, h1, h2, h3, h4, h5, h6⟩ := ho
            obtain ⟨hnr, hoj⟩ := hfocs j el sz ds m cs hos
            have hcx : ∀ k, cellX ds (renF st.obj d os.length (some (m, cs))) k = if k = m then some (cs.map (renC st.obj d os.length)) else ds[k]? := fun k => rfl
            have hcx0 : ∀ k, cellX ds (some (m, cs.map own0)) k = if k = m then some (cs.map own0) else ds[k]? := fun k => rfl
            refine ⟨xs, h1, h2, ⟨fun m' d' he => ?_, fun i' d' hd' hne => ?_⟩, fun i' d' hi' hc' => ?_, fun i' d' hi' hc' j' c hj' => ?_, h6⟩
            · simp only [renF, Option.some.injEq, Prod.mk.injEq] at he
              rw [← he.1]
              exact h3.1 m _ rfl
            · exact h3.2 i' d' hd' (fun m' d'' he => by
                simp only [Option.some.injEq, Prod.mk.injEq] at he
                rw [← he.1]
                exact hne m (cs.map (renC st.obj d os.length)) rfl)
            · rw [hcx] at hc'
              by_cases hk : i' = m
              · rw [if_pos hk] at hc'
                injection hc' with hc'
                subst hc'
                have := h4 i' (cs.map own0) hi' (by rw [hcx0, if_pos hk])
                simpa using this
              · rw [if_neg hk] at hc'
                exact h4 i' d' hi' (by rw [hcx0, if_neg hk]; exact hc')
            · rw [hcx] at hc'
              by_cases hk : i' = m
              · rw [if_pos hk] at hc'
                injection hc' with hc'
                subst hc'
                rw [List.getElem?_map] at hj'
                cases hc0 : cs[j']? with
                | none => rw [hc0] at hj'; simp at hj'
                | some c0 =>
                  rw [hc0] at hj'
                  simp at hj'
                  subst hj'
                  obtain ⟨q1, u, q2, q3⟩ := h5 i' (cs.map own0) hi' (by rw [hcx0, if_pos hk]) j' (own0 c0) (by rw [List.getElem?_map, hc0]; rfl)
                  refine ⟨?_, u, q2, hx c0 u (noRs_get hnr hc0) (fun j he => hoj j' j (by rw [hc0, he])) q3⟩
                  cases c0 <;> first | exact q1 | (simp only [renC]; cases Nat.blt _ _ <;> rfl)
              · rw [if_neg hk] at hc'
                obtain ⟨q1, u, q2, q3⟩ := h5 i' d' hi' (by rw [hcx0, if_neg hk]; exact hc') j' c hj'
                have hcr := noRs_get (h3.2 i' d' hc' (fun m' d'' he => by
                  simp only [Option.some.injEq, Prod.mk.injEq] at he
                  rw [← he.1]; exact hk)) hj'
                exact ⟨q1, u, q2, .cl (q3.closed hcr)⟩
        have hblk : ∀ j, j < os.length → ∀ b, (obj' (sig d j)).2.blk (E' (sig d j)) = some b → (obo os j).2.blk (Eo j) = some b := fun j hj b hb => by
          obtain ⟨el, sz, ds, foc, hos⟩ := hget j hj
          rw [hob j el sz ds foc hos, hE' j hj, arr_blk] at hb
          cases foc with
          | none => simp only [obo, hos, arr_blk]; exact hb
          | some p => obtain ⟨m, cs⟩ := p; simp only [obo, hos, arr_blk]; exact hb
        refine hn _ _ _ Z'' E' x w' hcall ?_
        refine hI.renew (fun t => ∃ j, j < os.length ∧ t = sig d j) hd hbel0 hkeep (fun b o hz => (hnew b o hz).2) (fun b o hz => (hnew' b o hz).imp id hI.fresh) (fun t ht => ?_) ?_ hobjk ?_ ?_ ?_ ?_
        · have ht' : ∀ j, j < os.length → t ≠ sig d j := fun j hj e => ht ⟨j, hj, e⟩
          exact ⟨hobn t ht', hE'n t ht'⟩
        · rintro t ⟨j, hj, rfl⟩
          obtain ⟨el, sz, ds, foc, hos⟩ := hget j hj
          have h9 := hob j el sz ds foc hos
          show (st.obj (sig d j)).1 < (obj' (sig d j)).1 ∨ _
          rw [h9]
          exact .inl (Nat.lt_succ_self _)
        · intro t ht b hb
          have hlt := (hI.obj t).lt hb
          refine ⟨hbel.block b hlt, fun k hz => (hnew' b k hz).resolve_right (by omega), ?_⟩
          rintro s ⟨j, hj, rfl⟩ hb'
          have := hfrs j b (hblk j hj b hb')
          omega
        · rintro t t' b ⟨j, hj, rfl⟩ ⟨j', hj', rfl⟩ hne h1 h2
          exact hapart j j' b (fun e => hne (by rw [e])) (hblk j hj b h1) (hblk j' hj' b h2)
        · rintro t ⟨j, hj, rfl⟩ b hb
          exact hI.fresh (hfrs j b (hblk j hj b hb))
        · cases r with
          | ow j =>
            obtain ⟨rfl, hj⟩ := hres
            have hblt : Nat.blt j os.length = true := by simp [Nat.blt]; omega
            simp only [renR, hblt, cond_true, Option.some.injEq] at hren
            subst hren
            obtain ⟨el, sz, ds, foc, hos⟩ := hget j hj
            refine .rs _ _ _ (hsl j hj) (by have := hob j el sz ds foc hos; show _ ≤ (obj' (sig d j)).1; rw [this]; exact Nat.le_refl _) fun _ _ _ _ _ => hE' j hj
          | agg cs0 =>
            simp only [renR, Option.some.injEq] at hren
            subst hren
            obtain ⟨vs0, hnr, rfl, hl0, hr0, ha0, hoj⟩ := hres
            refine .agx _ vs0 (by simpa using hl0) (fun i c v h1 h2 => ?_) (fun i c h1 => ?_)
            · rw [List.getElem?_map] at h1
              cases hc0 : cs0[i]? with
              | none => rw [hc0] at h1; simp at h1
              | some c0 =>
                rw [hc0] at h1
                simp at h1
                subst h1
                exact hx c0 v (noRs_get hnr hc0) (fun j he => hoj i j (by rw [hc0, he])) (hr0 i c0 v hc0 h2)
            · rw [List.getElem?_map] at h1
              cases hc0 : cs0[i]? with
              | none => rw [hc0] at h1; simp at h1
              | some c0 =>
                rw [hc0] at h1
                simp at h1
                subst h1
                have := ha0 i c0 hc0
                cases c0 <;> first | exact this | (simp only [renC]; cases Nat.blt _ _ <;> rfl)
          | _ => exact hres.elim
      · exact hcall.elim
    · exact hcall.elim
  · exact hcall.elim

theorem x_sound (hT : TOk P T) (o : Oper) : XSound P G T o := by
  obtain ⟨dst, op, type, pos, after, guard⟩ := o
  cases op with
  | load t x => exact xsound_load hT _ _ _ _ _ _ _
  | store t x y => exact xsound_store hT _ _ _ _ _ _ _ _
  | nilCheck x => exact xsound_nilCheck _ _ _ _ _ _
  | fieldAddr t x k => exact xsound_fieldAddr hT _ _ _ _ _ _ _ _
  | indexAddr t x i => exact xsound_indexAddr hT _ _ _ _ _ _ _ _
  | buildSlice t len ps => exact xsound_buildSlice hT _ _ _ _ _ _ _ _
  | call c =>
    obtain ⟨callee, args, argTypes⟩ := c
    cases callee with
    | builtin b =>
      by_cases h1 : b = .len
      · subst h1; exact xsound_len hT _ _ _ _ _ _ _
      · by_cases h2 : b = .append
        · subst h2; exact xsound_append hT _ _ _ _ _ _ _
        · intro Z0 w0 S n Z E st a w K next Q hI hd h hn
          cases b <;> first | exact absurd rfl h1 | exact absurd rfl h2 | exact h.elim
    | value f => exact xsound_call _ (fun b h => by cases h) _ _ _ _ _
    | invoke r m => exact xsound_call _ (fun b h => by cases h) _ _ _ _ _
  | _ => intro Z0 w0 S n Z E st a w K next Q hI hd h hn; exact h.elim

end
end Go.Abs
