/-
  Soundness: struct literals, slice literals, calls of functions.
-/
import Derived.Test.YtmcolhhmlpicaaaDoorAbsCall
namespace Go.Abs
open Go Go.RowKit

theorem foldl_set (off : Nat) : ∀ (vs : List Value) (k : Nat) (cells : Array Value), off + k + vs.length ≤ cells.size →
    ((vs.zipIdx k).foldl (fun cs (p : Value × Nat) => cs.setIfInBounds (off + p.2) p.1) cells).size = cells.size ∧
    ∀ m, ((vs.zipIdx k).foldl (fun cs (p : Value × Nat) => cs.setIfInBounds (off + p.2) p.1) cells)[m]? = if off + k ≤ m ∧ m < off + k + vs.length then vs[m - (off + k)]? else cells[m]?
  | [], k, cells, _ => ⟨by simp, fun m => by rw [if_neg (by simp)]; simp⟩
  | v :: vs, k, cells, h => by
    simp only [List.length_cons] at h
    obtain ⟨h1, h2⟩ := foldl_set off vs (k + 1) (cells.setIfInBounds (off + k) v) (by simp; omega)
    simp only [List.zipIdx_cons, List.foldl_cons]
    refine ⟨by rw [h1]; simp, fun m => ?_⟩
    rw [h2 m]
    by_cases hm : m = off + k
    · subst hm
      have hlt : off + k < cells.size := by omega
      rw [if_neg (by omega), if_pos (by simp)]
      simp [hlt]
    · by_cases hin : off + (k + 1) ≤ m ∧ m < off + (k + 1) + vs.length
      · rw [if_pos hin, if_pos (by simp; omega)]
        rw [show m - (off + k) = (m - (off + (k + 1))) + 1 from by omega]
        simp
      · rw [if_neg hin, if_neg (by simp; omega)]
        rw [Array.getElem?_setIfInBounds_ne (by omega)]

section
variable {P : Program} {G : World → Prop} {T : Tab} {Z0 : Base} {w0 : World} {S : Nat → Prop} {n : Nat} {Z Z' : Zone} {E : Nat → Value} {st : St} {a : Act} {w w' : World}

def RepCells (Z : Zone) (w : World) (zs : List CV) (cells : Array Value) : Prop := cells.size = zs.length ∧ ∀ (j : Nat) (c : CV), zs[j]? = some c → c.atom = true ∧ ∃ x, cells[j]? = some x ∧ Rep Z w c x

theorem RepCells.set {zs ys : List CV} {cells : Array Value} (h : RepCells Z w zs cells) {off : Nat} {c : CV} {x : Value} (hx : Rep Z w c x) (hst : c.storable = true) (hpos : 0 < c.cells.length) (hs : setAt zs off c.cells = some ys) :
    off + x.cells.size ≤ cells.size ∧ RepCells Z w ys (x.cells.zipIdx.foldl (fun cs (p : Value × Nat) => cs.setIfInBounds (off + p.2) p.1) cells) := by
  obtain ⟨h1, h2⟩ := cells_rep hx hst
  obtain ⟨g1, g2, g3⟩ := setAt_spec _ _ _ _ hs
  have hfit : off + x.cells.size ≤ cells.size := by
    rcases g2 with g2 | g2
    · rw [g2] at hpos; simp at hpos
    · rw [h1, h.1]; exact g2
  refine ⟨hfit, ?_⟩
  have hfold := foldl_set off x.cells.toList 0 cells (by simpa using hfit)
  have heq : x.cells.zipIdx.foldl (fun cs (p : Value × Nat) => cs.setIfInBounds (off + p.2) p.1) cells = (x.cells.toList.zipIdx 0).foldl (fun cs (p : Value × Nat) => cs.setIfInBounds (off + p.2) p.1) cells := by
    rw [← Array.foldl_toList, Array.toList_zipIdx]
  rw [heq]
  refine ⟨by rw [hfold.1, h.1, g1], fun j d hj => ?_⟩
  rw [hfold.2 j]
  rw [g3 j] at hj
  simp only [Nat.add_zero, Array.length_toList, h1]
  by_cases hin : off ≤ j ∧ j < off + c.cells.length
  · rw [if_pos hin] at hj ⊢
    obtain ⟨hat, y, hy, hr⟩ := h2 _ d hj
    exact ⟨hat, y, by simpa using hy, hr⟩
  · rw [if_neg hin] at hj ⊢
    exact h.2 j d hj

theorem fill_parts (hT : TOk P T) (hI : Inv G Z0 w0 S n Z E st a w) (fs : Array Field) (places : List (Nat × Nat)) (hpl : ∀ (i : Nat) (f : Field), fs[i]? = some f → ∀ ti, T.get f.type = some ti → places[i]? = some (f.offset, ti.size)) :
    ∀ (parts : List (Nat × Operand)) (zs ys : List CV) (cells : Array Value), RepCells Z w zs cells → buildParts T (look st) fs zs parts = some ys →
      ∃ cells', Instr.fill (fun i => places[i]?) cells (parts.map fun p => (p.1, a.eval p.2)) = some cells' ∧ RepCells Z w ys cells'
  | [], zs, ys, cells, h, hb => by simp [buildParts] at hb; subst hb; exact ⟨cells, rfl, h⟩
  | (i, x) :: r, zs, ys, cells, h, hb => by
    simp only [buildParts] at hb
    split at hb
    · rename_i f c hf hc
      split at hb
      · rename_i ti hti
        cases hchk : (Nat.beq c.cells.length ti.size && c.storable && Nat.ble 1 ti.size) with
        | false => rw [hchk] at hb; simp at hb
        | true =>
          rw [hchk] at hb
          simp only [Bool.and_eq_true] at hchk
          simp only [cond_true] at hb
          have hcl := Nat.eq_of_beq_eq_true hchk.1.1
          split at hb
          · rename_i zs' hset
            have hx := asC_rep (look_rep hI x) hc
            obtain ⟨hfit, hrc⟩ := h.set hx hchk.1.2 (by rw [hcl]; exact Nat.le_of_ble_eq_true hchk.2) hset
            obtain ⟨cells', hfill, hr'⟩ := fill_parts hT hI fs places hpl r zs' ys _ hrc hb
            refine ⟨cells', ?_, hr'⟩
            have hp := hpl i f hf ti hti
            have hsz : (a.eval x).cells.size = ti.size := by rw [(cells_rep hx hchk.1.2).1, hcl]
            simp only [List.map_cons, Instr.fill, hp, hsz]
            rw [if_neg (by simp; rw [hsz] at hfit; omega)]
            exact hfill
          · simp at hb
      · simp at hb
    · simp at hb

theorem sound_build (hT : TOk P T) (dst : Option Nat) (t : TypeId) (parts : Array (Nat × Operand)) (type : TypeId) (pos : String) (after : Array Edge) (guard : Option (Nat × Bool)) : OpSound P G T ⟨dst, .build t parts, type, pos, after, guard⟩ := by
  intro Z0 w0 S n Z E st a w K next Q F hI hd h hX hn
  simp only [wpOp] at h
  split at h
  · rename_i fs size bytes z isAgg ks hti
    replace h := bif_true h
    obtain ⟨hall, h⟩ := h
    rw [List.all_eq_true] at hall
    split at h
    · rename_i cs hb
      have hi := hT _ _ hti
      obtain ⟨j, hj, hjs, hjb, hjz⟩ := hi.infoE
      have hu := hi.u
      simp only at hu
      let places := fs.toList.map fun f => (f.offset, match T.get f.type with | some ti => ti.size | .none => 0)
      have hmap : fs.toList.mapM (fun f => (P.info? f.type).map fun i => (f.offset, i.size)) = some places := by
        have : ∀ l : List Field, (∀ f ∈ l, (T.get f.type).isSome = true) → l.mapM (fun f => (P.info? f.type).map fun i => (f.offset, i.size)) = some (l.map fun f => (f.offset, match T.get f.type with | some ti => ti.size | .none => 0)) := by
          intro l
          induction l with
          | nil => intro _; simp
          | cons f l ih =>
            intro hl
            have hf := hl f (by simp)
            cases htf : T.get f.type with
            | none => rw [htf] at hf; simp at hf
            | some ti =>
              obtain ⟨jf, hjf, hjfs, _, _⟩ := (hT _ _ htf).infoE
              simp [List.mapM_cons, hjf, hjfs, ih (fun f hf => hl f (by simp [hf])), htf]
        exact this fs.toList hall
      have hz0 : RepCells Z w (zeroC z ks) (zeroVal ⟨.struct fs, size, bytes, z, isAgg, ks⟩).cells := by
        rw [zero_cells hi]
        exact ⟨by simp [zeroC_len], fun j c hj => zero_rep hi j c hj⟩
      obtain ⟨cells, hfill, hrc⟩ := fill_parts hT hI fs places (fun i f hf ti hti => by
        have : fs.toList[i]? = some f := by simpa using hf
        simp [places, List.getElem?_map, this, hti]) parts.toList _ _ _ hz0 hb
      have hbuilt : P.built t (parts.map fun (i, x) => (i, a.eval x)).toList = some cells := by
        unfold Program.built
        simp only [hj, hu, hjz, hmap]
        rw [Array.toList_map]
        simp only [List.getElem?_toArray]
        exact hfill
      refine sound_value hI hd hn h (x := .agg cells) ?_ (.c _ _ ?_)
      · simp only [execOp, Sem.run_bind, run_build w t _ cells hbuilt]
        rfl
      · have := Rep.agg (Z := Z) (w := w) cs cells.toList (by simpa using hrc.1.symm) (fun i c x h1 h2 => by
          obtain ⟨_, y, hy, hr⟩ := hrc.2 i c h1
          have : x = y := by
            rw [Array.getElem?_toList] at h2
            rw [h2] at hy
            injection hy
          rw [this]; exact hr) (fun i c h1 => (hrc.2 i c h1).1)
        simpa using this
    · first | exact h.elim | exact hX h
  · first | exact h.elim | exact hX h
end
end Go.Abs
