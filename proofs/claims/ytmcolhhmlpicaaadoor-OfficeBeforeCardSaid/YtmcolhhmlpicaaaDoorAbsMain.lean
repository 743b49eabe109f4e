/-
  Soundness: slice literals and calls; then whole regions, whole code, whole functions.
-/
import Derived.Test.YtmcolhhmlpicaaaDoorAbsBuild
namespace Go.Abs
open Go Go.RowKit

section
variable {P : Program} {G : World → Prop} {T : Tab} {Z0 : Base} {w0 : World} {S : Nat → Prop} {n : Nat} {Z Z' : Zone} {E : Nat → Value} {st : St} {a : Act} {w w' : World}

theorem fill_elems (hI : Inv G Z0 w0 S n Z E st a w) (sz : Nat) (hsz : 0 < sz) :
    ∀ (parts : List (Nat × Operand)) (k : Nat) (es : List (List CV)) (cells : Array Value), buildElems (look st) sz k parts = some es → cells.size = (k + es.length) * sz →
      ∃ cells', Instr.fill (fun i => some (i * sz, sz)) cells (parts.map fun p => (p.1, a.eval p.2)) = some cells' ∧ cells'.size = cells.size ∧ (∀ m, m < k * sz → cells'[m]? = cells[m]?) ∧
        (∀ (i : Nat) (d : List CV), es[i]? = some d → d.length = sz) ∧
        ∀ (i j : Nat) (d : List CV) (c : CV), es[i]? = some d → d[j]? = some c → c.atom = true ∧ ∃ u, cells'[(k + i) * sz + j]? = some u ∧ Rep Z w c u
  | [], k, es, cells, h, hs => by
    simp [buildElems] at h
    subst h
    exact ⟨cells, rfl, rfl, fun _ _ => rfl, fun i d h => by simp at h, fun i j d c h => by simp at h⟩
  | (i0, x) :: r, k, es, cells, h, hs => by
    simp only [buildElems] at h
    split at h
    · rename_i c es' hc hes
      cases hchk : (Nat.beq i0 k && Nat.beq c.cells.length sz && c.storable) with
      | false => rw [hchk] at h; simp at h
      | true =>
        rw [hchk] at h
        simp only [Bool.and_eq_true] at hchk
        simp only [cond_true, Option.some.injEq] at h
        subst h
        have hi0 := Nat.eq_of_beq_eq_true hchk.1.1
        subst hi0
        have hcl := Nat.eq_of_beq_eq_true hchk.1.2
        have hx := asC_rep (look_rep hI x) hc
        obtain ⟨h1, h2⟩ := cells_rep hx hchk.2
        have hss : cells.size = (i0 + 1 + es'.length) * sz := by rw [hs]; congr 1; simp; omega
        have hfit : i0 * sz + (a.eval x).cells.size ≤ cells.size := by
          rw [h1, hcl, hss, Nat.add_mul, Nat.add_mul, Nat.one_mul]
          omega
        have hfold := foldl_set (i0 * sz) (a.eval x).cells.toList 0 cells (by simpa using hfit)
        have heq : (a.eval x).cells.zipIdx.foldl (fun cs (p : Value × Nat) => cs.setIfInBounds (i0 * sz + p.2) p.1) cells = ((a.eval x).cells.toList.zipIdx 0).foldl (fun cs (p : Value × Nat) => cs.setIfInBounds (i0 * sz + p.2) p.1) cells := by
          rw [← Array.foldl_toList, Array.toList_zipIdx]
        obtain ⟨cells', hfill, hsz', hlow, hlen', hrep⟩ := fill_elems hI sz hsz r (i0 + 1) es' ((a.eval x).cells.zipIdx.foldl (fun cs (p : Value × Nat) => cs.setIfInBounds (i0 * sz + p.2) p.1) cells) hes (by rw [heq, hfold.1]; exact hss)
        rw [heq] at hsz' hlow
        refine ⟨cells', ?_, by rw [hsz', hfold.1], fun m hm => ?_, fun i d hid => ?_, fun i j d cc hid hjc => ?_⟩
        · simp only [List.map_cons, Instr.fill, h1, hcl]
          rw [if_neg (by simp; rw [h1, hcl] at hfit; exact hfit)]
          exact hfill
        · rw [hlow m (by rw [Nat.add_mul, Nat.one_mul]; omega), hfold.2 m, if_neg (by omega)]
        · cases i with
          | zero => simp at hid; subst hid; exact hcl
          | succ i => exact hlen' i d (by simpa using hid)
        · cases i with
          | zero =>
            simp at hid
            subst hid
            obtain ⟨hat, u, hu, hr⟩ := h2 j cc hjc
            refine ⟨hat, u, ?_, hr⟩
            have hj : j < sz := by rw [← hcl]; exact (List.getElem?_eq_some_iff.1 hjc).1
            rw [Nat.add_zero, hlow _ (by rw [Nat.add_mul, Nat.one_mul]; omega), hfold.2 _, if_pos (by simp [h1, hcl]; omega)]
            rw [show i0 * sz + j - (i0 * sz + 0) = j from by omega]
            simpa using hu
          | succ i =>
            obtain ⟨hat, u, hu, hr⟩ := hrep i j d cc (by simpa using hid) hjc
            refine ⟨hat, u, ?_, hr⟩
            rw [show i0 + (i + 1) = i0 + 1 + i from by omega]
            exact hu
    · simp at h

theorem sound_buildSlice (hT : TOk P T) (dst : Option Nat) (t : TypeId) (len : Nat) (parts : Array (Nat × Operand)) (type : TypeId) (pos : String) (after : Array Edge) (guard : Option (Nat × Bool)) : OpSound P G T ⟨dst, .buildSlice t len parts, type, pos, after, guard⟩ := by
  intro Z0 w0 S n Z E st a w K next Q F hI hd h hX hn
  simp only [wpOp] at h
  split at h
  · rename_i e _ _ _ _ _ hti
    split at h
    · rename_i i d hte
      split at h
      · rename_i es hes
        replace h := bif_true h
        obtain ⟨hchk, h⟩ := h
        simp only [Bool.and_eq_true] at hchk
        obtain ⟨⟨⟨⟨hlen, hl1⟩, h1⟩, h2⟩, hzl⟩ := hchk
        have hlen := Nat.eq_of_beq_eq_true hlen
        subst hlen
        have hl1 := Nat.le_of_ble_eq_true hl1
        have h1 := Nat.le_of_ble_eq_true h1
        have h2 := Nat.le_of_ble_eq_true h2
        have hi := hT _ _ hte
        obtain ⟨j, hj, hjs, hjb, hjz⟩ := hi.infoE
        have hu := (hT _ _ hti).u
        simp only at hu
        let zero : Array Value := if es.length * i.size = 0 then #[] else (zeroVal i).cells
        obtain ⟨cells, hfill, hcs, _, hdl, hrep⟩ := fill_elems hI i.size h1 parts.toList 0 es ((Array.range (es.length * i.size)).map (zero[· % zero.size]!)) hes (by simp)
        have hcs : cells.size = es.length * i.size := by rw [hcs]; simp
        have hlim : ¬ (es.length * i.size > 2 ^ 24) := by
          have : es.length * i.size ≤ 4096 * 256 := Nat.mul_le_mul hl1 h2
          omega
        have hrun : (execOp a.eval ⟨some d, .buildSlice t es.length parts, type, pos, after, guard⟩).run P w = .ok (.value (.slice (some ⟨w.heap.size, 0, none⟩) es.length es.length)) (w.alloc (.cells cells e)) := by
          have hfill' : Instr.fill (fun i' => some (i' * i.size, i.size)) ((Array.range (es.length * i.size)).map (zero[· % zero.size]!)) (parts.map fun (i, x) => (i, a.eval x)).toList = some cells := by
            rw [Array.toList_map]; exact hfill
          simp only [execOp, Instr.buildSlice, Sem.run_bind, run_underlying hu, Result.andThen_ok, hi.sizeOf w, if_neg hlim, Sem.run_pure]
          by_cases h0 : es.length * i.size = 0
          · have hze : zero = #[] := by simp [zero, h0]
            rw [hze] at hfill'
            rw [if_pos h0]
            simp only [Sem.run_bind, Sem.run_pure, Result.andThen_ok, hfill']
            rfl
          · have hze : zero = (zeroVal i).cells := by simp [zero, h0]
            rw [hze] at hfill'
            have hzv : (zeroValue e).run P w = .ok (zeroVal i) w := by simp [zeroValue, typeInfo, hj, hjz]
            simp only [if_neg h0, Sem.run_bind, hzv, Result.andThen_ok, Sem.run_pure, hfill']
            rfl
        have hown := World.ownsRow_lit (base := 0) (e := e) (size := i.size) w cells es.length (Nat.zero_le _) (by simp only [maxLen]; omega) hcs
        have hkeep : Keeps Z w (fun b o => Z b o ∨ (b = w.heap.size ∧ o < es.length * i.size)) (w.alloc (.cells cells e)) := fun b o hz => ⟨.inl hz, (Keeps.alloc hI.zlt _ b o hz).2⟩
        refine wp_value hrun (hn _ _ _ (fun b o => Z b o ∨ (b = w.heap.size ∧ o < es.length * i.size)) (setE E d (.slice (some ⟨w.heap.size, 0, none⟩) es.length es.length)) _ _ h ?_)
        refine hI.tok hd (upd_one_same _ _ _) (fun t ht => .inl (upd_one_ne _ _ ht)) (below_alloc hI _) hkeep ?_ ?_ ?_ ?_ (fun b hb => by simp [AObj.blk] at hb; exact hI.fresh (by omega)) ?_
        · intro b o hz
          rcases hz with hz | ⟨rfl, _⟩
          · have := hI.zlt b o hz; simp; omega
          · simp
        · intro b o hz
          rcases hz with hz | ⟨rfl, _⟩
          · exact .inl hz
          · exact .inr (hI.fresh (Nat.le_refl _))
        · refine ⟨es.length, cells.toList, h1, hown, fun g cap he o ho hz => ?_⟩
          simp only [Value.slice.injEq, Option.some.injEq, Addr.mk.injEq] at he
          rcases hz with hz | ⟨_, hz⟩
          · have := hI.zlt g o hz; omega
          · omega
        · refine rep_own hown rfl hdl (fun i' j' d' c' h3 h4 => ?_) (fun b o hb ho => .inr ?_)
          · obtain ⟨hat, u, hu, hr⟩ := hrep i' j' d' c' h3 h4
            exact ⟨hat, u, by simpa using hu, hr.keep hkeep⟩
          · simp [Value.ownBlock] at hb
            exact ⟨hb.symm, ho⟩
        · intro t ht _ b hb
          have hlt := (hI.obj t).lt hb
          refine ⟨heap_alloc_old w _ hlt, fun k hk => hk.elim id (fun h => by omega), ?_⟩
          rw [own_blk]
          simp [Value.ownBlock]
          omega
      · first | exact h.elim | exact hX h
    · first | exact h.elim | exact hX h
  · first | exact h.elim | exact hX h

def Zf (Z : Zone) (obj : Objs) (E : Nat → Value) (ts : List Nat) : Zone := fun b o => Z b o ∨ ∃ s ∈ ts, (obj s).2.blk (E s) = some b
theorem Zf_keeps (obj : Objs) (E : Nat → Value) {ts us : List Nat} (h : ∀ s ∈ ts, s ∈ us) : Keeps (Zf Z obj E ts) w (Zf Z obj E us) w :=
  fun _ _ hz => ⟨hz.imp id fun ⟨s, hs, hb⟩ => ⟨s, h s hs, hb⟩, rfl, fun _ _ h => h⟩
theorem Zf_of (obj : Objs) (E : Nat → Value) (ts : List Nat) : Keeps Z w (Zf Z obj E ts) w := fun _ _ hz => ⟨.inl hz, rfl, fun _ _ h => h⟩

theorem arr_rep (hI : Inv G Z0 w0 S n Z E st a w) {t g el sz : Nat} {ds : List (List CV)} {ts : List Nat} (ho : st.obj t = (g, .arr el sz ds none)) (ht : t ∈ ts) {x : Value} (hE : E t = x) : Rep (Zf Z st.obj E ts) w (.sl sz ds) x := by
  have hk : Keeps Z w (Zf Z st.obj E ts) w := Zf_of _ _ _
  have hot := hI.obj t
  rw [ho] at hot
  obtain ⟨xs, hsz, hown, hfoc, hdl, hcl, hz⟩ := hot
  rw [hE] at hown
  refine rep_own hown rfl (fun i d hd => hdl i d (List.getElem?_eq_some_iff.1 hd).1 hd) (fun i j d c h1 h2 => ?_) (fun b o hb _ => .inr ⟨t, ht, by rw [ho, hE, arr_blk]; exact hb⟩)
  obtain ⟨hat, u, hu, hr⟩ := hcl i d (List.getElem?_eq_some_iff.1 h1).1 h1 j c h2
  exact ⟨hat, u, hu, (hr.closed (noRs_get (hfoc.2 i d h1 (fun m d' he => by cases he)) h2)).keep hk⟩
theorem map_rep (hI : Inv G Z0 w0 S n Z E st a w) {t g : Nat} {es : List (CV × CV)} {ts : List Nat} (ho : st.obj t = (g, .map es)) (ht : t ∈ ts) {x : Value} (hE : E t = x) : Rep (Zf Z st.obj E ts) w (.mp es) x := by
  have hk : Keeps Z w (Zf Z st.obj E ts) w := Zf_of _ _ _
  have hot := hI.obj t
  rw [ho, hE] at hot
  obtain ⟨b, arr, clock, he, hh, hl, hc, hz⟩ := hot
  rw [he]
  exact .mp es b arr clock (.inr ⟨t, ht, by rw [ho, hE, he]; rfl⟩) hh hl (fun i k v m h1 h2 => (hc i k v m h1 h2).1.keep hk) (fun i k v m h1 h2 => (hc i k v m h1 h2).2.keep hk)
theorem frzC1_rep (hI : Inv G Z0 w0 S n Z E st a w) {c : CV} {x : Value} (h : RepX Z w st.obj E c x) {c' : CV} {ts us : List Nat} (hf : frzC1 st.obj c = some (c', ts)) (hu : ∀ t ∈ ts, t ∈ us) : Rep (Zf Z st.obj E us) w c' x ∧ (c.atom = true → c'.atom = true) := by
  have closed : ∀ (c : CV), c.isRs = false → RepX Z w st.obj E c x → some (c, ([] : List Nat)) = some (c', ts) → Rep (Zf Z st.obj E us) w c' x ∧ (c.atom = true → c'.atom = true) := by
    intro c hc hr he
    simp at he
    obtain ⟨rfl, rfl⟩ := he
    exact ⟨(hr.closed hc).keep (Zf_of _ _ _), id⟩
  cases h with
  | fr => simp [frzC1] at hf
  | one h1 =>
    cases h1 with
    | cl h =>
      have hn := h.notRs
      have hx : RepX Z w st.obj E c x := .cl h
      cases c <;> first | exact closed _ hn hx hf | (simp [CV.isRs] at hn)
    | rs t g x hs hg h =>
      simp only [frzC1] at hf
      split at hf
      · rename_i g' el sz ds ho
        cases hb : Nat.beq g g' with
        | false => rw [hb] at hf; simp at hf
        | true =>
          rw [hb] at hf
          simp at hf
          obtain ⟨rfl, rfl⟩ := hf
          have := Nat.eq_of_beq_eq_true hb
          subst this
          exact ⟨arr_rep hI ho (hu t (by simp)) (h _ _ _ _ ho), fun _ => rfl⟩
      · simp at hf
    | pr => simp [frzC1] at hf
    | mr t g x hs hg h =>
      simp only [frzC1] at hf
      split at hf
      · rename_i g' es ho
        cases hb : Nat.beq g g' with
        | false => rw [hb] at hf; simp at hf
        | true =>
          rw [hb] at hf
          simp at hf
          obtain ⟨rfl, rfl⟩ := hf
          have := Nat.eq_of_beq_eq_true hb
          subst this
          exact ⟨map_rep hI ho (hu t (by simp)) (h _ ho), fun _ => rfl⟩
      · simp at hf
theorem frzCs_rep (hI : Inv G Z0 w0 S n Z E st a w) : ∀ {cs cs' : List CV} {ts us : List Nat}, frzCs st.obj cs = some (cs', ts) → (∀ t ∈ ts, t ∈ us) → cs'.length = cs.length ∧ ∀ (j : Nat) (c' : CV), cs'[j]? = some c' → ∃ c, cs[j]? = some c ∧ (c.atom = true → c'.atom = true) ∧
    ∀ x, RepX Z w st.obj E c x → Rep (Zf Z st.obj E us) w c' x
  | [], cs', ts, us, hf, _ => by
    simp [frzCs] at hf
    obtain ⟨rfl, rfl⟩ := hf
    exact ⟨rfl, fun j c' h => by simp at h⟩
  | c :: r, cs', ts, us, hf, hu => by
    simp only [frzCs] at hf
    split at hf
    · rename_i d t1 ds t2 h1 h2
      simp at hf
      obtain ⟨rfl, rfl⟩ := hf
      obtain ⟨hl, hr⟩ := frzCs_rep hI (us := us) h2 (fun t ht => hu t (List.mem_append_right _ ht))
      refine ⟨by simp [hl], fun j c' hj => ?_⟩
      cases j with
      | zero =>
        simp at hj
        subst hj
        refine ⟨c, rfl, fun hat => ?_, fun x hx => (frzC1_rep hI hx h1 (fun t ht => hu t (List.mem_append_left _ ht))).1⟩
        have hatom : ∀ (c : CV) (d : CV) (t1 : List Nat), frzC1 st.obj c = some (d, t1) → c.atom = true → d.atom = true := by
          intro c d t1 hf hat
          unfold frzC1 at hf
          split at hf
          · split at hf
            · rename_i g _ g' _ _ _ _
              cases hb : Nat.beq g g' with
              | false => rw [hb] at hf; simp at hf
              | true => rw [hb] at hf; simp at hf; rw [← hf.1]; rfl
            · simp at hf
          · split at hf
            · rename_i g _ g' _ _
              cases hb : Nat.beq g g' with
              | false => rw [hb] at hf; simp at hf
              | true => rw [hb] at hf; simp at hf; rw [← hf.1]; rfl
            · simp at hf
          · simp at hf
          · simp at hf
          · simp at hf; rw [← hf.1]; exact hat
        exact hatom c d t1 h1 hat
      | succ j => exact hr j c' (by simpa using hj)
    · simp at hf
theorem freeze_rep (hI : Inv G Z0 w0 S n Z E st a w) {s : SV} {x : Value} (h : RepS Z w st.obj E s x) {c : CV} {ts : List Nat} (hf : freeze st.obj s = some (c, ts)) : Rep (Zf Z st.obj E ts) w c x := by
  unfold freeze at hf
  split at hf
  · rename_i t g off
    split at hf
    · rename_i g' cs ho
      cases hb : Nat.beq g g' with
      | false => rw [hb] at hf; simp at hf
      | true =>
        rw [hb] at hf
        simp at hf
        obtain ⟨rfl, rfl⟩ := hf
        have := Nat.eq_of_beq_eq_true hb
        subst this
        obtain ⟨b, hE, hx, f, hc⟩ := var_cells hI (.inl ho) h
        have hk : Keeps Z w (Zf Z st.obj E [t]) w := Zf_of _ _ _
        have := Rep.pi (Z := Zf Z st.obj E [t]) (w := w) cs b 0 off f (fun j c hj => ⟨.inr ⟨t, by simp, by rw [ho, hE]; rfl⟩, by rw [Nat.zero_add]; exact (hc j c hj).1, (hc j c hj).2.1⟩) (fun j c hj => (hc j c hj).2.2.keep hk)
        rw [Nat.zero_add] at this
        rw [hx]
        exact this
    · rename_i g' cs ho
      cases hb : Nat.beq g g' with
      | false => rw [hb] at hf; simp at hf
      | true =>
        rw [hb] at hf
        simp only [cond_true] at hf
        have := Nat.eq_of_beq_eq_true hb
        subst this
        split at hf
        · rename_i cs' us hq
          simp at hf
          obtain ⟨rfl, rfl⟩ := hf
          have hot := hI.obj t
          rw [ho] at hot
          obtain ⟨b, el, arr, hE, hh, hs, hc, hz⟩ := hot
          have hx : x = .pointer (some ⟨b, off, none⟩) := by
            cases h with
            | pm _ _ _ _ _ _ hl =>
              obtain ⟨b', h1, h2⟩ := hl ⟨cs, .inr (.inr ho)⟩
              rw [hE] at h1
              injection h1 with h1; injection h1 with h1; injection h1 with h1
              subst h1
              exact h2
          obtain ⟨hl, hr⟩ := frzCs_rep hI (us := t :: us) hq (fun s hs => List.mem_cons_of_mem _ hs)
          have := Rep.pi (Z := Zf Z st.obj E (t :: us)) (w := w) cs' b 0 off (fun j => arr.getD j undef) (fun j c hj => ?_) (fun j c hj => ?_)
          · rw [Nat.zero_add] at this
            rw [hx]
            exact this
          · obtain ⟨c0, h0, hat, _⟩ := hr j c hj
            obtain ⟨h1, y, hy, _⟩ := hc j c0 h0
            refine ⟨.inr ⟨t, by simp, by rw [ho, hE]; rfl⟩, ?_, hat h1⟩
            rw [Nat.zero_add, cell_of_row w b j arr el (0, 0) hh, Array.getD_eq_getD_getElem?, hy]; rfl
          · obtain ⟨c0, h0, _, hrr⟩ := hr j c hj
            obtain ⟨_, y, hy, hxx⟩ := hc j c0 h0
            have : arr.getD j undef = y := by rw [Array.getD_eq_getD_getElem?, hy]; rfl
            rw [this]
            exact hrr y hxx
        · simp at hf
    · simp at hf
  · rename_i t g
    split at hf
    · rename_i g' es ho
      cases hb : Nat.beq g g' with
      | false => rw [hb] at hf; simp at hf
      | true =>
        rw [hb] at hf
        simp at hf
        obtain ⟨rfl, rfl⟩ := hf
        have := Nat.eq_of_beq_eq_true hb
        subst this
        exact map_rep hI ho (by simp) (by cases h with | mr _ _ _ _ _ h => exact h _ ho)
    · simp at hf
  · rename_i t g
    split at hf
    · rename_i g' el sz ds ho
      cases hb : Nat.beq g g' with
      | false => rw [hb] at hf; simp at hf
      | true =>
        rw [hb] at hf
        simp at hf
        obtain ⟨rfl, rfl⟩ := hf
        have := Nat.eq_of_beq_eq_true hb
        subst this
        exact arr_rep hI ho (by simp) (by cases h with | rs _ _ _ _ _ h => exact h _ _ _ _ ho)
    · simp at hf
  · cases hc : asC s with
    | none => rw [hc] at hf; simp at hf
    | some c' =>
      rw [hc] at hf
      simp at hf
      obtain ⟨rfl, rfl⟩ := hf
      exact (asC_rep h hc).keep (Zf_of _ _ _)

theorem freezeL_rep (hI : Inv G Z0 w0 S n Z E st a w) : ∀ (ss : List SV) (vs : List Value) (cs : List CV) (ts : List Nat), ss.length = vs.length → (∀ (i : Nat) (s : SV) (x : Value), ss[i]? = some s → vs[i]? = some x → RepS Z w st.obj E s x) →
    freezeL st.obj ss = some (cs, ts) → RepL (Zf Z st.obj E ts) w cs vs
  | [], [], cs, ts, _, _, hf => by simp [freezeL] at hf; obtain ⟨rfl, rfl⟩ := hf; exact RepL.nil _ _
  | [], _ :: _, _, _, hl, _, _ => by simp at hl
  | _ :: _, [], _, _, hl, _, _ => by simp at hl
  | s :: ss, x :: vs, cs, ts, hl, h, hf => by
    simp only [freezeL] at hf
    split at hf
    · rename_i c t1 cs' t2 h1 h2
      simp at hf
      obtain ⟨rfl, rfl⟩ := hf
      have r1 := freeze_rep hI (h 0 s x rfl rfl) h1
      have r2 := freezeL_rep hI ss vs cs' t2 (by simpa using hl) (fun i s' x' ha hb => h (i + 1) s' x' (by simpa using ha) (by simpa using hb)) h2
      exact RepL.cons (r1.keep (Zf_keeps _ _ (fun s hs => List.mem_append_left _ hs))) (r2.keep (Zf_keeps _ _ (fun s hs => List.mem_append_right _ hs)))
    · simp at hf

theorem freezeA_rep (hI : Inv G Z0 w0 S n Z E st a w) {s : SV} {x : Value} (h : RepS Z w st.obj E s x) {c : CV} {ts : List Nat} (hf : freezeA st.obj s = some (c, ts)) : Rep (Zf Z st.obj E ts) w c x := by
  unfold freezeA at hf
  split at hf
  · rename_i f caps
    split at hf
    · rename_i cs ts' hl
      simp at hf
      obtain ⟨rfl, rfl⟩ := hf
      cases h with
      | fnr _ _ vs hlen hr =>
        have := freezeL_rep hI caps vs cs ts' hlen hr hl
        exact .fn f cs vs this.1 this.2
    · simp at hf
  · exact freeze_rep hI h hf

theorem freezeAs_rep (hI : Inv G Z0 w0 S n Z E st a w) : ∀ (ss : List SV) (vs : List Value) (cs : List CV) (ts : List Nat), ss.length = vs.length → (∀ (i : Nat) (s : SV) (x : Value), ss[i]? = some s → vs[i]? = some x → RepS Z w st.obj E s x) →
    freezeAs st.obj ss = some (cs, ts) → RepL (Zf Z st.obj E ts) w cs vs
  | [], [], cs, ts, _, _, hf => by simp [freezeAs] at hf; obtain ⟨rfl, rfl⟩ := hf; exact RepL.nil _ _
  | [], _ :: _, _, _, hl, _, _ => by simp at hl
  | _ :: _, [], _, _, hl, _, _ => by simp at hl
  | s :: ss, x :: vs, cs, ts, hl, h, hf => by
    simp only [freezeAs] at hf
    split at hf
    · rename_i c t1 cs' t2 h1 h2
      simp at hf
      obtain ⟨rfl, rfl⟩ := hf
      have r1 := freezeA_rep hI (h 0 s x rfl rfl) h1
      have r2 := freezeAs_rep hI ss vs cs' t2 (by simpa using hl) (fun i s' x' ha hb => h (i + 1) s' x' (by simpa using ha) (by simpa using hb)) h2
      exact RepL.cons (r1.keep (Zf_keeps _ _ (fun s hs => List.mem_append_left _ hs))) (r2.keep (Zf_keeps _ _ (fun s hs => List.mem_append_right _ hs)))
    · simp at hf

theorem flat_rep {r : CV} {x : Value} (hr : flat r = true) (h : Rep Z w r x) (Z' : Zone) (w' : World) : Rep Z' w' r x := by
  have tup : ∀ (cs : List CV) (vs : List Value), (∀ c ∈ cs, ∃ y, c = .v y) → cs.length = vs.length → (∀ (i : Nat) (c : CV) (x : Value), cs[i]? = some c → vs[i]? = some x → Rep Z w c x) → Rep Z' w' (.tup cs) (.tuple vs.toArray) := by
    intro cs vs hall hl hh
    refine .tup cs vs hl fun i c x h1 h2 => ?_
    obtain ⟨y, rfl⟩ := hall c (List.mem_of_getElem? h1)
    have := rep_v (hh i _ x h1 h2)
    rw [this]
    exact .v y
  unfold flat at hr
  split at hr
  · rw [rep_v h]; exact .v _
  · cases h with | tup _ vs hl hh => exact tup _ _ (by simp) hl hh
  · cases h with | tup _ vs hl hh => exact tup _ _ (by simp) hl hh
  · cases hr

theorem call_prep (hI : Inv G Z0 w0 S n Z E st a w) {c : Call} {f : FuncId} {args : List SV} {more cs : List CV} {ts : List Nat} (hargs : callArgs (look st) c = some (f, args, more)) (hfr : freezeAs st.obj args = some (cs, ts)) (hb : HasBody P f)
    (dst : Option Nat) (type : TypeId) (pos : String) (after : Array Edge) (guard : Option (Nat × Bool)) :
    ∃ vs : List Value, RepL (Zf Z st.obj E ts) w (cs ++ more) vs ∧ (execOp a.eval ⟨dst, .call c, type, pos, after, guard⟩).run P w = .ok (.enter f vs.toArray) w := by
  have hvals : ∃ caps extra : List Value, (∃ fo, c.callee = .value fo ∧ a.eval fo = .func (.func f) #[] (caps ++ extra).toArray) ∧ RepL Z w more extra ∧ args.length = ((c.args.toList.map a.eval) ++ caps).length ∧
      ∀ (i : Nat) (s : SV) (x : Value), args[i]? = some s → ((c.args.toList.map a.eval) ++ caps)[i]? = some x → RepS Z w st.obj E s x := by
    have hmap : ∀ (i : Nat) (s : SV) (x : Value), (c.args.toList.map (look st))[i]? = some s → (c.args.toList.map a.eval)[i]? = some x → RepS Z w st.obj E s x := by
      intro i s x h1 h2
      rw [List.getElem?_map] at h1 h2
      cases ho : c.args.toList[i]? with
      | none => rw [ho] at h1; simp at h1
      | some op =>
        rw [ho] at h1 h2
        simp at h1 h2
        subst h1; subst h2
        exact look_rep hI op
    have happ : ∀ (ss : List SV) (vs : List Value), ss.length = vs.length → (∀ (i : Nat) (s : SV) (x : Value), ss[i]? = some s → vs[i]? = some x → RepS Z w st.obj E s x) →
        ∀ (i : Nat) (s : SV) (x : Value), (c.args.toList.map (look st) ++ ss)[i]? = some s → (c.args.toList.map a.eval ++ vs)[i]? = some x → RepS Z w st.obj E s x := by
      intro ss vs hl hh i s x h1 h2
      rcases Nat.lt_or_ge i c.args.toList.length with hlt | hge
      · rw [List.getElem?_append_left (by simpa using hlt)] at h1 h2
        exact hmap i s x h1 h2
      · rw [List.getElem?_append_right (by simpa using hge)] at h1 h2
        simp only [List.length_map] at h1 h2
        exact hh _ s x h1 h2
    unfold callArgs at hargs
    split at hargs
    · rename_i fo hfo
      have hfx := look_rep hI fo
      split at hargs
      · rename_i f' caps hlf
        simp at hargs
        obtain ⟨rfl, rfl, rfl⟩ := hargs
        rw [hlf] at hfx
        generalize hax : a.eval fo = y at hfx
        cases hfx with
        | c _ _ hr =>
          cases hr with
          | fn _ _ vs hl hh => exact ⟨[], vs, ⟨fo, hfo, hax⟩, ⟨hl, hh⟩, by simp, by simpa using hmap⟩
      · rename_i f' caps hlf
        simp at hargs
        obtain ⟨rfl, rfl, rfl⟩ := hargs
        rw [hlf] at hfx
        generalize hax : a.eval fo = y at hfx
        cases hfx with
        | fnr _ _ vs hl hh => exact ⟨vs, [], ⟨fo, hfo, by simpa using hax⟩, RepL.nil _ _, by simp [hl], happ _ _ hl hh⟩
      · simp at hargs
    · simp at hargs
  obtain ⟨caps, extra, ⟨fo, hfo, hfv⟩, hex, hal, har⟩ := hvals
  obtain ⟨fn, hfn, hnm, hbd⟩ := hb
  have hrl := (freezeAs_rep hI args _ cs ts hal har hfr).append (hex.keep (Zf_of st.obj E ts))
  refine ⟨_, hrl, ?_⟩
  have hargsE : c.args.map a.eval ++ (caps ++ extra).toArray = ((c.args.toList.map a.eval) ++ caps ++ extra).toArray := by
    apply Array.ext'
    simp
  simp only [execOp, resolve, hfo, Deferred.ofValue, hfv, invoke, callFunc, Sem.run_bind, Sem.run_pure, Result.andThen_ok, Array.empty_append, hargsE]
  have hnm' : ¬ (fn.name = "runtime.NumGoroutine") := by simpa using hnm
  have hbd' : ¬ (fn.body = none) := fun e => by rw [e] at hbd; cases hbd
  simp [Go.program, Sem.run, hfn, hnm', hbd']

theorem flat_pure {r : CV} (h : flat r = true) : r.pure = true := by cases r <;> first | rfl | (simp [flat] at h)

theorem sound_call (c : Call) (hc : ∀ b, c.callee ≠ .builtin b) (dst : Option Nat) (type : TypeId) (pos : String) (after : Array Edge) (guard : Option (Nat × Bool)) : OpSound P G T ⟨dst, .call c, type, pos, after, guard⟩ := by
  intro Z0 w0 S n Z E st a w K next Q F hI hd h hX hn
  have hcall : wpCall (orc P G) (look st) st.obj F c K := by
    unfold wpOp at h
    cases hcc : c.callee with
    | builtin b => exact absurd hcc (hc b)
    | value f => simp only [hcc] at h; exact h
    | invoke r m => simp only [hcc] at h; exact h
  clear h
  unfold wpCall at hcall
  split at hcall
  · rename_i f args more hargs
    split at hcall
    · rename_i cs ts hfr
      rcases hcall with hcall | hcall
      rotate_left
      · exact hX hcall
      obtain ⟨r, hholds, hts, hk⟩ := hcall
      obtain ⟨hbody, hcalls⟩ := hholds
      obtain ⟨vs, hrl, hrun⟩ := call_prep hI hargs hfr hbody dst type pos after guard
      unfold Oper.wp
      rw [hrun]
      simp only [Oper.upon]
      have hzlt : ∀ b o, Zf Z st.obj E ts b o → b < w.heap.size := fun b o hz => hz.elim (hI.zlt b o) fun ⟨s, _, hb⟩ => (hI.obj s).lt hb
      refine (hcalls _ w _ hrl hzlt (fun w1 hb1 => hI.gs _ (hI.below.trans (.of_below hb1 hI.sltw)))).mono ?_
      rintro e w' ⟨x, Z'', rfl, hrep, hsub, hnew, hbel⟩
      have hobjk : ∀ (Z1 : Zone), Keeps Z w Z1 w' → (∀ b o, b < w.heap.size → Z1 b o → Z b o) → ∀ t, ObjOk Z1 w' st.obj E (E t) (st.obj t).2 := fun Z1 hk1 hz1 t =>
        (hI.obj t).keep hk1 (ObjKeep.refl _ _) fun b hb => ⟨hbel.block b ((hI.obj t).lt hb), fun k hz => hz1 b k ((hI.obj t).lt hb) hz⟩
      have hbel0 : Kept S w w' := .of_below hbel hI.sltw
      cases hte : ts.isEmpty with
      | true =>
        rw [hte] at hts
        simp only [cond_true] at hts
        have htn : ts = [] := by simpa using hte
        subst htn
        have hkeep : Keeps Z w Z'' w' := fun b o hz => ⟨hsub b o (.inl hz), keep_heap (hbel.block b (hI.zlt b o hz))⟩
        refine hn _ _ _ Z'' E x w' hk ?_
        refine hI.step hd hbel0 hkeep (fun b o hz => (hnew b o hz).2) (fun b o hz => ?_) (ObjKeep.refl _ _) (hobjk Z'' hkeep fun b o hb hz => ?_) hI.apart hI.own (.c _ _ (hrep.pure hts))
        · rcases (hnew b o hz).1 with h1 | h1
          · rcases h1 with h1 | ⟨s, hs, _⟩
            · exact .inl h1
            · simp at hs
          · exact .inr (hI.fresh h1)
        · rcases (hnew b o hz).1 with h1 | h1
          · rcases h1 with h1 | ⟨s, hs, _⟩
            · exact h1
            · simp at hs
          · omega
      | false =>
        rw [hte] at hts
        simp only [cond_false] at hts
        have hkeep : Keeps Z w Z w' := fun b o hz => ⟨hz, keep_heap (hbel.block b (hI.zlt b o hz))⟩
        refine hn _ _ _ Z E x w' hk ?_
        exact hI.step hd hbel0 hkeep (fun b o hz => Nat.lt_of_lt_of_le (hI.zlt b o hz) hbel.size) (fun _ _ hz => .inl hz) (ObjKeep.refl _ _) (hobjk Z hkeep fun _ _ _ hz => hz) hI.apart hI.own (.c _ _ (flat_rep hts (hrep.pure (flat_pure hts)) _ _))
    · exact hX hcall
  · exact hX hcall

theorem op_sound (hT : TOk P T) (o : Oper) : OpSound P G T o := by
  obtain ⟨dst, op, type, pos, after, guard⟩ := o
  cases op with
  | move x => exact sound_move _ _ _ _ _ _
  | assign x => exact sound_assign _ _ _ _ _ _
  | pick c x y => exact sound_pick _ _ _ _ _ _ _ _
  | alloc e => exact sound_alloc hT _ _ _ _ _ _
  | box e x => exact sound_box _ _ _ _ _ _ _
  | build t ps => exact sound_build hT _ _ _ _ _ _ _
  | buildSlice t len ps => exact sound_buildSlice hT _ _ _ _ _ _ _ _
  | load t x => exact sound_load hT _ _ _ _ _ _ _
  | store t x y => exact sound_store hT _ _ _ _ _ _ _ _
  | nilCheck x => exact sound_nilCheck _ _ _ _ _ _
  | binOp op t x y t' => exact sound_binOp hT _ _ _ _ _ _ _ _ _ _
  | unOp op t x => exact sound_unOp _ _ _ _ _ _ _ _
  | convert s t x => exact sound_convert hT _ _ _ _ _ _ _ _
  | makeFunc fn first captured => exact sound_makeFunc _ _ _ _ _ _ _ _
  | fieldAddr t x k => exact sound_fieldAddr hT _ _ _ _ _ _ _ _
  | field t x k => exact sound_field hT _ _ _ _ _ _ _ _
  | indexAddr t x i => exact sound_indexAddr hT _ _ _ _ _ _ _ _
  | index t x i => exact sound_index hT _ _ _ _ _ _ _ _
  | extract x k => exact sound_extract _ _ _ _ _ _ _
  | call c =>
    obtain ⟨callee, args, argTypes⟩ := c
    cases callee with
    | builtin b => exact sound_builtin hT _ _ _ _ _ _ _ _
    | value f => exact sound_call _ (fun b h => by cases h) _ _ _ _ _
    | invoke r m => exact sound_call _ (fun b h => by cases h) _ _ _ _ _
  | _ => intro Z0 w0 S n Z E st a w K next Q F hI hd h hX hn; exact hX h
end
end Go.Abs
