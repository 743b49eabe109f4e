/-
  Soundness of the operations on slices of the call's own that are written: stores, indices, lengths.
-/
import Derived.Test.YtmcolhhmlpicaaaDoorAbsX1
namespace Go.Abs
open Go Go.RowKit

theorem setCells_spec {ds ds' : List (List CV)} {foc foc' : Option (Nat × List CV)} {m : Nat} {cs' : List CV} (hf : FocOk ds foc) (hm : m < ds.length) (h : setCells ds foc m cs' ds' foc') :
    ds'.length = ds.length ∧ FocOk ds' foc' ∧ cellX ds' foc' m = some cs' ∧ ∀ i, i ≠ m → cellX ds' foc' i = cellX ds foc i := by
  unfold setCells at h
  split at h
  · rcases h with ⟨hn, rfl, rfl⟩ | ⟨rfl, rfl⟩
    · refine ⟨by simp, ⟨(fun _ _ h => nomatch h), fun i d hd _ => ?_⟩, by simp [cellX, hm], fun i hi => by simp [cellX, List.getElem?_set_ne (Ne.symm hi)]⟩
      by_cases hi : i = m
      · subst hi; rw [List.getElem?_set_self hm] at hd; injection hd with hd; subst hd; exact hn
      · rw [List.getElem?_set_ne (Ne.symm hi)] at hd; exact hf.2 i d hd (fun _ _ h => nomatch h)
    · refine ⟨rfl, ⟨(fun k d h => by cases h; exact hm), fun i d hd _ => hf.2 i d hd (fun _ _ h => nomatch h)⟩, by simp [cellX], fun i hi => by simp [cellX, hi]⟩
  · rename_i k d
    rcases h with ⟨rfl, rfl, rfl⟩ | ⟨hne, hn, rfl, rfl⟩
    · refine ⟨rfl, ⟨(fun k d h => by cases h; exact hm), fun i d' hd hi => hf.2 i d' hd (fun k' d'' h => by cases h; exact hi _ _ rfl)⟩, by simp [cellX], fun i hi => by simp [cellX, hi]⟩
    · refine ⟨by simp, ⟨(fun k' d' h => by cases h; simpa using hf.1 _ _ rfl), fun i d' hd hi => ?_⟩, by simp [cellX, hne, hm], fun i hi => by simp [cellX, List.getElem?_set_ne (Ne.symm hi)]⟩
      by_cases him : i = m
      · subst him; rw [List.getElem?_set_self hm] at hd; injection hd with hd; subst hd; exact hn
      · rw [List.getElem?_set_ne (Ne.symm him)] at hd
        exact hf.2 i d' hd hi

section
variable {P : Program} {G : World → Prop} {T : Tab} {Z0 : Base} {w0 : World} {S : Nat → Prop} {n : Nat} {Z Z' : Zone} {E : Nat → Value} {st : St} {a : Act} {w w' : World}

theorem Inv.vroot (hI : Inv G Z0 w0 S n Z E st a w) {s g : Nat} {cs : List CV} (h : st.obj s = (g, .var cs) ∨ st.obj s = (g, .varx cs)) :
    ∃ b el arr, E s = .pointer (some ⟨b, 0, none⟩) ∧ w.heap[b]? = some (.cells arr el (0, 0)) ∧ arr.size = cs.length ∧
      (∀ (j : Nat) (c : CV), cs[j]? = some c → c.atom = true ∧ ∃ x, arr[j]? = some x ∧ RepX Z w st.obj E c x) ∧ (∀ o, ¬ Z b o) ∧ (st.obj s).2.blk (E s) = some b := by
  have ho := hI.obj s
  rcases h with h | h
  · rw [h] at ho
    obtain ⟨b, el, arr, he, hh, hs, hc, hz⟩ := ho
    exact ⟨b, el, arr, he, hh, hs, fun j c hj => ⟨(hc j c hj).1, by obtain ⟨_, x, hx, hr⟩ := hc j c hj; exact ⟨x, hx, .cl hr⟩⟩, hz, by rw [h, he]; rfl⟩
  · rw [h] at ho
    obtain ⟨b, el, arr, he, hh, hs, hc, hz⟩ := ho
    exact ⟨b, el, arr, he, hh, hs, hc, hz, by rw [h, he]; rfl⟩

/-- A block of the call's own is written; its object is told anew. -/
theorem Inv.setBlk (hI : Inv G Z0 w0 S n Z E st a w) {d : Option Nat} (hd : inRange n d = true) {s b : Nat} {o' : AObj} {arr' : Array Value} (hblk : (st.obj s).2.blk (E s) = some b) (hblk' : o'.blk (E s) = some b) (hz : ∀ o, ¬ Z b o) (x : Value)
    (hsk : SameKind (st.obj s).2 o')
    (hok : Keeps Z w Z (w.setRow b arr') → ObjKeep st.obj E (upd st.obj [(s, ((st.obj s).1, o'))]) E → ObjOk Z (w.setRow b arr') (upd st.obj [(s, ((st.obj s).1, o'))]) E (E s) o') :
    Inv G Z0 w0 S n Z E ⟨put st.env d .any, upd st.obj [(s, ((st.obj s).1, o'))]⟩ (a.put d x) (w.setRow b arr') := by
  have hnS := hI.own s b hblk
  have hk : Keeps Z w Z (w.setRow b arr') := fun b' o hz' => ⟨hz', keep_heap (setRow_other w b b' arr' (fun e => by subst e; exact hz o hz'))⟩
  have hother : ∀ t, t ≠ s → upd st.obj [(s, ((st.obj s).1, o'))] t = st.obj t := fun t h => upd_one_ne _ _ h
  have hsame : upd st.obj [(s, ((st.obj s).1, o'))] s = ((st.obj s).1, o') := upd_one_same _ _ _
  refine hI.renew (· = s) hd ⟨rfl, rfl, rfl, by simp [World.setRow], fun k hk => setRow_other w b k arr' (fun e => hnS (e ▸ hk))⟩ hk (fun b o h => by have := hI.zlt b o h; simpa [World.setRow] using this) (fun _ _ h => .inl h) (fun t ht => ⟨hother t ht, rfl⟩) ?_ ?_ ?_ ?_ ?_ (.any _)
  · rintro t rfl; rw [hsame]; exact .inr ⟨rfl, .inr ⟨rfl, hsk⟩⟩
  · rintro hkeep t rfl
    rw [hsame]
    exact hok hk hkeep
  · intro t ht b' hb
    have hne : b' ≠ b := fun e => by subst e; exact hI.apart t s b' ht hb hblk
    refine ⟨setRow_other w b b' arr' hne, fun _ hz => hz, ?_⟩
    rintro s' rfl h
    rw [hsame, hblk'] at h
    injection h with h
    exact hne h.symm
  · rintro t t' b rfl rfl h; exact absurd rfl h
  · rintro t rfl b' hb
    rw [hsame, hblk'] at hb
    injection hb with hb
    subst hb
    exact hnS

theorem xsound_store (hT : TOk P T) (dst : Option Nat) (t : TypeId) (x y : Operand) (type : TypeId) (pos : String) (after : Array Edge) (guard : Option (Nat × Bool)) : XSound P G T ⟨dst, .store t x y, type, pos, after, guard⟩ := by
  intro Z0 w0 S n Z E st a w K next Q hI hd h hn
  have hx := look_rep hI x
  have hy := look_rep hI y
  simp only [wpX] at h
  split at h
  · rename_i i ys hti hys
    have hi := hT _ _ hti
    replace h := bif_true h
    obtain ⟨hb, h⟩ := h
    simp only [Bool.and_eq_true] at hb
    have hyl : ys.length = i.size := Nat.eq_of_beq_eq_true hb.1
    have hyp : 1 ≤ i.size := Nat.le_of_ble_eq_true hb.2
    obtain ⟨hsz, hyc⟩ := cellsSV_rep hy hys
    have hone := cells_one hsz hyc
    have hvl : (a.eval y).cells.toList.length = ys.length := by rw [Array.length_toList, hsz]
    -- the run
    have run : ∀ (b o : Nat) (cur : Array Value) (el : TypeId), a.eval x = .pointer (some ⟨b, o, none⟩) → w.heap[b]? = some (.cells cur el (0, 0)) → o + ys.length ≤ cur.size →
        (execOp a.eval ⟨dst, .store t x y, type, pos, after, guard⟩).run P w = .ok .skip (w.setRow b (cur.toList.take (o + 0) ++ (a.eval y).cells.toList ++ cur.toList.drop (o + 0 + (a.eval y).cells.toList.length)).toArray) := by
      intro b o cur el hxe hh hfit
      have hrun := run_storeCells_at (P := P) b o el (a.eval y).cells.toList 0 cur w hh (by rw [hvl]; simpa using hfit) hone
      simp only [execOp, hxe, Instr.storeAt, Instr.sureAddr, storeVar, Sem.run_bind, Sem.run_pure, Result.andThen_ok, hi.sizeOf w]
      rw [if_neg (by rw [hsz, hyl]; simp)]
      simp only [Sem.run_pure, Result.andThen_ok, hrun]
    split at h
    · rename_i s g off he
      rw [he] at hx
      have go : ∀ cs, (st.obj s = (g, .var cs) ∨ st.obj s = (g, .varx cs)) → (match setAt cs off ys with | some cs' => K .any [s] [(s, (g, .varx cs'))] | .none => False) → Oper.wp P ⟨dst, .store t x y, type, pos, after, guard⟩ a w next Q := by
        intro cs ho h
        split at h
        · rename_i cs' hset
          obtain ⟨b, el, arr, hE, hh, hs, hc, hz, hblk⟩ := hI.vroot ho
          have hxe : a.eval x = .pointer (some ⟨b, off, none⟩) := by
            generalize a.eval x = y at hx
            cases hx with
            | pm _ _ _ _ _ hg hl =>
              obtain ⟨b', hE', hy'⟩ := hl ⟨cs, ho.imp id .inr⟩
              rw [hE] at hE'
              simp at hE'
              rw [hy', hE']
          obtain ⟨h1, h2, h3⟩ := setAt_spec _ _ _ _ hset
          have hfit : off + ys.length ≤ arr.size := by
            rcases h2 with h2 | h2
            · rw [h2] at hyl; simp at hyl; omega
            · rw [hs]; exact h2
          have hg : (st.obj s).1 = g := by rcases ho with ho | ho <;> rw [ho]
          refine wp_skip' (run b off arr el hxe hh hfit) (hn _ _ _ Z E undef _ h ?_)
          have := hI.setBlk (o' := .varx cs') (arr' := (arr.toList.take (off + 0) ++ (a.eval y).cells.toList ++ arr.toList.drop (off + 0 + (a.eval y).cells.toList.length)).toArray) hd hblk (by rw [hE]; rfl) hz undef (by rcases ho with ho | ho <;> (rw [ho]; trivial)) ?_
          · rw [hg] at this; exact this
          · intro hk hkeep
            have hrs := row_size (cur := arr) (vs := (a.eval y).cells.toList) (o := off) (by rw [hvl]; exact hfit)
            have hrg := fun j => row_get (cur := arr) (vs := (a.eval y).cells.toList) (o := off) (by rw [hvl]; exact hfit) j
            generalize hcur' : (arr.toList.take (off + 0) ++ (a.eval y).cells.toList ++ arr.toList.drop (off + 0 + (a.eval y).cells.toList.length)).toArray = cur' at hrs hrg hk hkeep ⊢
            simp only [hvl] at hrg
            refine ⟨b, el, _, hE, setRow_heap w b arr _ el (0, 0) hh, by rw [hrs, hs, h1], fun j c hj => ?_, hz⟩
            rw [h3 j] at hj
            rw [hrg]
            by_cases hin : off ≤ j ∧ j < off + ys.length
            · rw [if_pos hin] at hj ⊢
              obtain ⟨h4, v, h5, h6⟩ := hyc _ c hj
              exact ⟨h4, v, by simpa using h5, h6.keep hk hkeep⟩
            · rw [if_neg hin] at hj ⊢
              obtain ⟨h4, v, h5, h6⟩ := hc j c hj
              exact ⟨h4, v, h5, h6.keep hk hkeep⟩
        · exact h.elim
      split at h
      · rename_i g' cs ho
        replace h := bif_true h; obtain ⟨hgg, h⟩ := h
        simp only [Bool.and_eq_true] at hgg
        have := Nat.eq_of_beq_eq_true hgg.1
        subst this
        exact go cs (.inl ho) h
      · rename_i g' cs ho
        replace h := bif_true h; obtain ⟨hgg, h⟩ := h
        have := Nat.eq_of_beq_eq_true hgg
        subst this
        exact go cs (.inr ho) h
      · exact h.elim
    · rename_i s g m off he
      rw [he] at hx
      split at h
      · rename_i g' el sz ds foc ho
        replace h := bif_true h; obtain ⟨hgg, h⟩ := h
        have := Nat.eq_of_beq_eq_true hgg
        subst this
        obtain ⟨cs, hcs, h⟩ := h
        split at h
        · rename_i cs' hset
          obtain ⟨ds', foc', hsc, h⟩ := h
          have hobj := hI.obj s
          rw [ho] at hobj
          obtain ⟨xs, hszp, hown, hfoc, hdl, hcl, hz⟩ := hobj
          obtain ⟨hm, hcx⟩ := cellsAt_spec hfoc hcs
          obtain ⟨hlen', hfoc', hcm, hco⟩ := setCells_spec hfoc hm hsc
          obtain ⟨h1, h2, h3⟩ := setAt_spec _ _ _ _ hset
          have hcsl := hdl m cs hm hcx
          rcases hown.2 with ⟨_, h0⟩ | ⟨b, cap, cur, hE, hbase, hh, hnc, hcmx, hcs2, htake⟩
          · omega
          have hxe : a.eval x = .pointer (some ⟨b, m * sz + off, none⟩) := by
            generalize a.eval x = y at hx
            cases hx with
            | pe _ _ _ _ _ _ hp' =>
              obtain ⟨b', l', k', hE', hy'⟩ := hp' _ _ _ _ ho
              rw [hE] at hE'
              simp at hE'
              rw [hy', hE'.1]
          have hoff : off + ys.length ≤ sz := by
            rcases h2 with h2 | h2
            · rw [h2] at hyl; simp at hyl; omega
            · rw [← hcsl]; exact h2
          have hmul : ds.length * sz ≤ cap * sz := Nat.mul_le_mul_right _ hnc
          have hmsz : m * sz + sz ≤ ds.length * sz := by
            have : (m + 1) * sz ≤ ds.length * sz := Nat.mul_le_mul_right _ hm
            rw [Nat.add_mul, Nat.one_mul] at this
            exact this
          have hfit : m * sz + off + ys.length ≤ cur.size := by rw [hcs2]; omega
          have hg : (st.obj s).1 = g := by rw [ho]
          have hz' : ∀ o, ¬ Z b o := fun o => hz b o (by rw [hE]; rfl)
          refine wp_skip' (run b (m * sz + off) cur el hxe hh hfit) (hn _ _ _ Z E undef _ h ?_)
          have := hI.setBlk (o' := .arr el sz ds' foc') (arr' := (cur.toList.take (m * sz + off + 0) ++ (a.eval y).cells.toList ++ cur.toList.drop (m * sz + off + 0 + (a.eval y).cells.toList.length)).toArray) hd (by rw [ho, hE]; rfl) (by rw [hE]; rfl) hz' undef (by rw [ho]; exact ⟨rfl, rfl⟩) ?_
          · rw [hg] at this; exact this
          · intro hk hkeep
            have hrs := row_size (cur := cur) (vs := (a.eval y).cells.toList) (o := m * sz + off) (by rw [hvl]; exact hfit)
            have hrg := fun j => row_get (cur := cur) (vs := (a.eval y).cells.toList) (o := m * sz + off) (by rw [hvl]; exact hfit) j
            generalize hcur' : (cur.toList.take (m * sz + off + 0) ++ (a.eval y).cells.toList ++ cur.toList.drop (m * sz + off + 0 + (a.eval y).cells.toList.length)).toArray = cur' at hrs hrg hk hkeep ⊢
            simp only [hvl] at hrg
            have h9 : cur'.toList.length = cap * sz := by rw [Array.length_toList, hrs, hcs2]
            refine ⟨cur'.toList.take (ds.length * sz), hszp, ⟨(by rw [hlen', List.length_take, h9]; omega), .inr ⟨b, cap, cur', by rw [hlen', hE], hbase, setRow_heap w b cur cur' el (0, 0) hh, by rw [hlen']; exact hnc, hcmx, by rw [hrs, hcs2], by rw [hlen']⟩⟩, hfoc', ?_, ?_, fun b' o hb' => by rw [hE] at hb'; simp [Value.ownBlock] at hb'; subst hb'; exact hz' o⟩
            · intro k d hkl hkc
              rw [hlen'] at hkl
              by_cases hkm : k = m
              · subst hkm; rw [hcm] at hkc; injection hkc with hkc; subst hkc; rw [h1]; exact hcsl
              · rw [hco k hkm] at hkc; exact hdl k d hkl hkc
            · intro k d hkl hkc j c hj
              rw [hlen'] at hkl
              have hjsz : j < sz := by
                have hdsz : d.length = sz := by
                  by_cases hkm : k = m
                  · subst hkm; rw [hcm] at hkc; injection hkc with hkc; subst hkc; rw [h1]; exact hcsl
                  · rw [hco k hkm] at hkc; exact hdl k d hkl hkc
                rw [← hdsz]; exact (List.getElem?_eq_some_iff.1 hj).1
              have hidx := idx_lt hkl hjsz
              have hget : (cur'.toList.take (ds.length * sz))[k * sz + j]? = cur'[k * sz + j]? := by rw [List.getElem?_take, if_pos hidx]; simp
              have hold : ∀ u, xs[k * sz + j]? = some u → cur[k * sz + j]? = some u := fun u hu => by
                rw [← htake, List.getElem?_take, if_pos hidx] at hu
                simpa using hu
              rw [hget, hrg]
              by_cases hkm : k = m
              · subst hkm
                rw [hcm] at hkc
                injection hkc with hkc
                subst hkc
                rw [h3 j] at hj
                by_cases hin : off ≤ j ∧ j < off + ys.length
                · rw [if_pos hin] at hj
                  rw [if_pos (by omega)]
                  obtain ⟨h4, v, h5, h6⟩ := hyc _ c hj
                  refine ⟨h4, v, ?_, h6.keep hk hkeep⟩
                  rw [show k * sz + j - (k * sz + off) = j - off from by omega]
                  simpa using h5
                · rw [if_neg hin] at hj
                  rw [if_neg (by omega)]
                  obtain ⟨h4, v, h5, h6⟩ := hcl k cs hkl hcx j c hj
                  exact ⟨h4, v, hold v h5, h6.keep hk hkeep⟩
              · rw [hco k hkm] at hkc
                obtain ⟨h4, v, h5, h6⟩ := hcl k d hkl hkc j c hj
                have hnot : ¬ (m * sz + off ≤ k * sz + j ∧ k * sz + j < m * sz + off + ys.length) := by
                  rcases Nat.lt_or_gt_of_ne hkm with hlt | hgt
                  · have : (k + 1) * sz ≤ m * sz := Nat.mul_le_mul_right _ hlt
                    rw [Nat.add_mul, Nat.one_mul] at this
                    omega
                  · have : (m + 1) * sz ≤ k * sz := Nat.mul_le_mul_right _ hgt
                    rw [Nat.add_mul, Nat.one_mul] at this
                    omega
                rw [if_neg hnot]
                exact ⟨h4, v, hold v h5, h6.keep hk hkeep⟩
        · exact h.elim
      · exact h.elim
    · exact h.elim
  · exact h.elim

theorem xsound_indexAddr (hT : TOk P T) (dst : Option Nat) (t : TypeId) (x i : Operand) (type : TypeId) (pos : String) (after : Array Edge) (guard : Option (Nat × Bool)) : XSound P G T ⟨dst, .indexAddr t x i, type, pos, after, guard⟩ := by
  intro Z0 w0 S n Z E st a w K next Q hI hd h hn
  have hx := look_rep hI x
  have hix := look_rep hI i
  simp only [wpX] at h
  split at h
  · rename_i e _ _ _ _ _ hti
    have hi := hT _ _ hti
    have hu := hi.u
    simp only at hu
    split at h
    · rename_i ti s g kd m hte hlx hli
      have hie := hT _ _ hte
      rw [hlx] at hx
      rw [hli] at hix
      have hiv : a.eval i = .int kd m := rep_cv hix
      split at h
      · rename_i g' el sz ds foc ho
        replace h := bif_true h; obtain ⟨hgg, h⟩ := h
        simp only [Bool.and_eq_true] at hgg
        have := Nat.eq_of_beq_eq_true hgg.1
        subst this
        have hsz := Nat.eq_of_beq_eq_true hgg.2
        obtain ⟨h0, hlt, h⟩ := h
        have hobj := hI.obj s
        rw [ho] at hobj
        obtain ⟨xs, hszp, hown, _⟩ := hobj
        obtain ⟨b, cap, hE, _, _⟩ := own_form hown (by omega)
        generalize hax : a.eval x = y at hx
        cases hx with
        | rs _ _ _ hs hg hp' =>
          have hye : y = .slice (some ⟨b, 0, none⟩) ds.length cap := (hp' _ _ _ _ ho).symm.trans hE
          refine sound_value hI hd hn h (x := .pointer (some ⟨b, m.toNat * sz, none⟩)) ?_ (.pe _ _ _ _ _ hg fun el' sz' ds' foc' ho' => ?_)
          · have hmi : (0 ≤ m ∧ m < (ds.length : Int)) := ⟨h0, by omega⟩
            simp only [execOp, hax, hye, hiv, Instr.indexAt, asIntOf, Sem.run_bind, Sem.run_pure, Result.andThen_ok, run_underlying hu, hie.sizeOf w, if_pos hmi, Addr.add_lit, hsz, Nat.zero_add]
          · rw [ho] at ho'
            simp only [Prod.mk.injEq, AObj.arr.injEq, true_and] at ho'
            obtain ⟨_, rfl, _⟩ := ho'
            exact ⟨b, _, cap, hE, rfl⟩
      · exact h.elim
    · exact h.elim
  · exact h.elim
end
end Go.Abs
