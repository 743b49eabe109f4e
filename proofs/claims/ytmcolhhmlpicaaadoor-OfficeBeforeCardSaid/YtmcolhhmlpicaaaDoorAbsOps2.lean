/-
  Soundness of the abstract operations that read memory.
-/
import Derived.Test.YtmcolhhmlpicaaaDoorAbsOps
namespace Go.Abs
open Go Go.RowKit

theorem takeN_spec : ∀ (m : Nat) (l xs : List CV), takeN m l = some xs → xs.length = m ∧ ∀ (j : Nat), j < m → xs[j]? = l[j]?
  | 0, l, xs, h => by simp [takeN] at h; subst h; exact ⟨rfl, fun j hj => by omega⟩
  | m + 1, [], xs, h => by simp [takeN] at h
  | m + 1, c :: r, xs, h => by
    simp only [takeN] at h
    split at h
    · rename_i cs hcs
      simp at h
      subst h
      obtain ⟨h1, h2⟩ := takeN_spec m r cs hcs
      refine ⟨by simp [h1], fun j hj => ?_⟩
      cases j with
      | zero => rfl
      | succ j => simpa using h2 j (by omega)
    · simp at h

section
variable {P : Program} {G : World → Prop} {T : Tab} {Z0 : Base} {w0 : World} {S : Nat → Prop} {n : Nat} {Z : Zone} {E : Nat → Value} {st : St} {a : Act} {w : World}

theorem run_part {t : TypeId} {i : TI} (hi : TOk1 P t i) {cs : List CV} {b o off : Nat} {f : Nat → Value} {c : CV}
    (hc : ∀ (j : Nat) (c : CV), cs[j]? = some c → w.cell? ⟨b, o + j, none⟩ = some (f j) ∧ c.atom = true ∧ Rep Z w c (f j)) (hp : part i cs off = some c) :
    ∃ x, (Instr.loadAt t (.pointer (some ⟨b, o + off, none⟩))).run P w = .ok x w ∧ Rep Z w c x := by
  unfold part at hp
  cases hagg : i.isAgg with
  | false =>
    rw [hagg] at hp
    simp only [cond_false] at hp
    obtain ⟨h1, _, h3⟩ := hc off c hp
    refine ⟨f off, ?_, h3⟩
    have hr := hi.isAggRun w
    rw [hagg] at hr
    simp [Instr.loadAt, Instr.sureAddr, loadVar, hr, Go.load, Sem.run, h1]
  | true =>
    rw [hagg] at hp
    simp only [cond_true] at hp
    cases hx : takeN i.size (cs.drop off) with
    | none => rw [hx] at hp; simp at hp
    | some xs =>
      rw [hx] at hp
      simp at hp
      subst hp
      obtain ⟨hl, hj⟩ := takeN_spec _ _ _ hx
      have hr := hi.isAggRun w
      rw [hagg] at hr
      have hat : ∀ (j : Nat) (c : CV), xs[j]? = some c → cs[off + j]? = some c := fun j c hjc => by
        have hlt : j < i.size := by rw [← hl]; exact (List.getElem?_eq_some_iff.1 hjc).1
        rw [hj j hlt, List.getElem?_drop] at hjc
        exact hjc
      let vals := (List.range i.size).map fun j => f (off + j)
      have hvl : vals.length = i.size := by simp [vals]
      have hcells := run_loadCells_list (P := P) w ⟨b, o + off, none⟩ vals (fun j v hjv => by
        have hlt : j < i.size := by rw [← hvl]; exact (List.getElem?_eq_some_iff.1 hjv).1
        have hxj : ∃ c, xs[j]? = some c := ⟨xs[j]'(by omega), List.getElem?_eq_getElem (by omega)⟩
        obtain ⟨c, hxc⟩ := hxj
        obtain ⟨h1, _, _⟩ := hc _ c (hat j c hxc)
        have : v = f (off + j) := by
          simp [vals, List.getElem?_map, List.getElem?_range hlt] at hjv
          exact hjv.symm
        rw [this, Addr.add_lit, Nat.add_assoc]
        exact h1)
      rw [hvl] at hcells
      refine ⟨.agg vals.toArray, ?_, .agg xs vals (by omega) (fun j c x hjc hjx => ?_) (fun j c hjc => (hc _ c (hat j c hjc)).2.1)⟩
      · simp [Instr.loadAt, Instr.sureAddr, loadVar, hr, hi.sizeOf w, hcells]
      · have hlt : j < i.size := by rw [← hl]; exact (List.getElem?_eq_some_iff.1 hjc).1
        have : x = f (off + j) := by
          simp [vals, List.getElem?_map, List.getElem?_range hlt] at hjx
          exact hjx.symm
        rw [this]
        exact (hc _ c (hat j c hjc)).2.2

/-- The cells of a variable of the call's own. -/
theorem var_cells (hI : Inv G Z0 w0 S n Z E st a w) {s g : Nat} {cs : List CV} (h : st.obj s = (g, .var cs) ∨ st.obj s = (g, .ro cs)) {off : Nat} {x : Value} (hx : RepS Z w st.obj E (.pm s g off) x) :
    ∃ b, E s = .pointer (some ⟨b, 0, none⟩) ∧ x = .pointer (some ⟨b, off, none⟩) ∧ ∃ f : Nat → Value, ∀ (j : Nat) (c : CV), cs[j]? = some c → w.cell? ⟨b, j, none⟩ = some (f j) ∧ c.atom = true ∧ Rep Z w c (f j) := by
  cases hx with
  | pm _ _ _ _ _ hg hl =>
    obtain ⟨b, hE, hxe⟩ := hl ⟨cs, h.imp id .inl⟩
    refine ⟨b, hE, hxe, ?_⟩
    have ho := hI.obj s
    rcases h with h | h
    · rw [h] at ho
      obtain ⟨b', el, arr, he, hh, hs, hc, _⟩ := ho
      have : b' = b := by rw [hE] at he; injection he with h1; injection h1 with h1; injection h1 with h1; exact h1.symm
      subst this
      refine ⟨fun j => arr.getD j undef, fun j c hj => ?_⟩
      obtain ⟨hat, x', hx', hr⟩ := hc j c hj
      have : arr.getD j undef = x' := by rw [Array.getD_eq_getD_getElem?, hx']; rfl
      simp only [this]
      exact ⟨(cell_of_row w b' j arr el (0, 0) hh).trans hx', hat, hr⟩
    · rw [h] at ho
      obtain ⟨b', el, arr, he, hh, hs, hc⟩ := ho
      have : b' = b := by rw [hE] at he; injection he with h1; injection h1 with h1; injection h1 with h1; exact h1.symm
      subst this
      refine ⟨fun j => arr.getD j undef, fun j c hj => ?_⟩
      obtain ⟨hat, _, x', hx', hr⟩ := hc j c hj
      have : arr.getD j undef = x' := by rw [Array.getD_eq_getD_getElem?, hx']; rfl
      simp only [this]
      exact ⟨(cell_of_row w b' j arr el (0, 0) hh).trans hx', hat, hr⟩

theorem bif_true {b : Bool} {p : Prop} (h : bif b then p else False) : b = true ∧ p := by cases b <;> simp_all

theorem sound_load (hT : TOk P T) (dst : Option Nat) (t : TypeId) (x : Operand) (type : TypeId) (pos : String) (after : Array Edge) (guard : Option (Nat × Bool)) : OpSound P G T ⟨dst, .load t x, type, pos, after, guard⟩ := by
  intro Z0 w0 S n Z E st a w K next Q F hI hd h hX hn
  have hx := look_rep hI x
  simp only [wpOp] at h
  split at h
  · rename_i i hti
    have hi := hT _ _ hti
    have fin : ∀ (b o off : Nat) (cs : List CV) (f : Nat → Value) (c : CV) (rd : List Nat), a.eval x = .pointer (some ⟨b, o + off, none⟩) →
        (∀ (j : Nat) (c : CV), cs[j]? = some c → w.cell? ⟨b, o + j, none⟩ = some (f j) ∧ c.atom = true ∧ Rep Z w c (f j)) → part i cs off = some c → K (.c c) rd [] →
        Oper.wp P ⟨dst, .load t x, type, pos, after, guard⟩ a w next Q := by
      intro b o off cs f c rd he hc hp hk
      obtain ⟨v, hv, hrep⟩ := run_part hi hc hp
      refine sound_value hI hd hn hk (x := v) ?_ (.c _ _ hrep)
      simp only [execOp, he, Sem.run_bind, hv]
      rfl
    split at h
    · rename_i s g off he
      rw [he] at hx
      split at h
      · rename_i g' cs ho
        replace h := bif_true h; obtain ⟨hgg, h⟩ := h
        have := Nat.eq_of_beq_eq_true hgg
        subst this
        split at h
        · rename_i c hp
          obtain ⟨b, _, hxe, f, hc⟩ := var_cells hI (.inl ho) hx
          exact fin b 0 off cs f c _ (by rw [hxe, Nat.zero_add]) (fun j c hj => by rw [Nat.zero_add]; exact hc j c hj) hp h
        · first | exact h.elim | exact hX h
      · rename_i g' cs ho
        replace h := bif_true h; obtain ⟨hgg, h⟩ := h
        have := Nat.eq_of_beq_eq_true hgg
        subst this
        split at h
        · rename_i c hp
          obtain ⟨b, _, hxe, f, hc⟩ := var_cells hI (.inr ho) hx
          exact fin b 0 off cs f c _ (by rw [hxe, Nat.zero_add]) (fun j c hj => by rw [Nat.zero_add]; exact hc j c hj) hp h
        · first | exact h.elim | exact hX h
      · first | exact h.elim | exact hX h
    · rename_i cs off he
      rw [he] at hx
      split at h
      · rename_i c hp
        generalize hax : a.eval x = y at hx
        cases hx with
        | c _ _ hr =>
          cases hr with
          | pi _ b o _ f hc hrep => exact fin b o off cs f c _ hax (fun j c hj => ⟨(hc j c hj).2.1, (hc j c hj).2.2, hrep j c hj⟩) hp h
      · first | exact h.elim | exact hX h
    · first | exact h.elim | exact hX h
  · first | exact h.elim | exact hX h

theorem sound_nilCheck (dst : Option Nat) (x : Operand) (type : TypeId) (pos : String) (after : Array Edge) (guard : Option (Nat × Bool)) : OpSound P G T ⟨dst, .nilCheck x, type, pos, after, guard⟩ := by
  intro Z0 w0 S n Z E st a w K next Q F hI hd h hX hn
  have hx := look_rep hI x
  have fin : ∀ (b off : Nat) (rd : List Nat), a.eval x = .pointer (some ⟨b, off, none⟩) → K (look st x) rd [] → Oper.wp P ⟨dst, .nilCheck x, type, pos, after, guard⟩ a w next Q := by
    intro b off rd he hk
    exact sound_value hI hd hn hk (x := a.eval x) (by simp [execOp, he]) hx
  simp only [wpOp] at h
  split at h
  · rename_i s g off he
    have hx' := hx
    rw [he] at hx'
    split at h
    · rename_i g' cs ho
      replace h := bif_true h; obtain ⟨hgg, h⟩ := h
      have := Nat.eq_of_beq_eq_true hgg
      subst this
      obtain ⟨b, _, hxe, _⟩ := var_cells hI (.inl ho) hx'
      exact fin b off _ hxe h
    · rename_i g' cs ho
      replace h := bif_true h; obtain ⟨hgg, h⟩ := h
      have := Nat.eq_of_beq_eq_true hgg
      subst this
      obtain ⟨b, _, hxe, _⟩ := var_cells hI (.inr ho) hx'
      exact fin b off _ hxe h
    · first | exact h.elim | exact hX h
  · rename_i cs off he
    have hx' := hx
    rw [he] at hx'
    generalize hax : a.eval x = y at hx'
    cases hx' with
    | c _ _ hr =>
      cases hr with
      | pi _ b o _ f hc hrep => exact fin b _ _ hax h
  · rename_i f caps he
    have hx' := hx
    rw [he] at hx'
    generalize hax : a.eval x = y at hx'
    cases hx' with
    | c _ _ hr =>
      cases hr with
      | fn _ _ vs hl hrep => exact sound_value hI hd hn h (x := a.eval x) (by simp [execOp, hax]) hx
  · rename_i f caps he
    have hx' := hx
    rw [he] at hx'
    generalize hax : a.eval x = y at hx'
    cases hx' with
    | fnr _ _ vs hl hrep => exact sound_value hI hd hn h (x := a.eval x) (by simp [execOp, hax]) hx
  · first | exact h.elim | exact hX h

theorem sound_fieldAddr (hT : TOk P T) (dst : Option Nat) (t : TypeId) (x : Operand) (k : Nat) (type : TypeId) (pos : String) (after : Array Edge) (guard : Option (Nat × Bool)) : OpSound P G T ⟨dst, .fieldAddr t x k, type, pos, after, guard⟩ := by
  intro Z0 w0 S n Z E st a w K next Q F hI hd h hX hn
  have hx := look_rep hI x
  simp only [wpOp] at h
  split at h
  · rename_i fs _ _ _ _ _ hti
    have hi := hT _ _ hti
    split at h
    · rename_i f hf
      split at h
      · rename_i i hfi
        have hfi' := hT _ _ hfi
        cases hz : Nat.beq i.size 0 with
        | true => rw [hz] at h; first | exact h.elim | exact hX h
        | false =>
          rw [hz] at h
          simp only [cond_false] at h
          have hne : i.size ≠ 0 := fun e => by rw [e] at hz; exact Bool.noConfusion hz
          have run : ∀ b off, (Instr.fieldAt t (.pointer (some ⟨b, off, none⟩)) k).run P w = .ok (.pointer (some ⟨b, off + f.offset, none⟩)) w := by
            intro b off
            have hu := hi.u
            simp only at hu
            simp [Instr.fieldAt, run_underlying hu, hf, Instr.sureAddr, fieldPlace, hfi'.sizeOf w, hne, Addr.add_lit]
          split at h
          · rename_i s g off he
            have hx' := hx
            rw [he] at hx'
            have go : ∀ cs, (st.obj s = (g, .var cs) ∨ st.obj s = (g, .ro cs)) → K (.pm s g (off + f.offset)) [s] [] → Oper.wp P ⟨dst, .fieldAddr t x k, type, pos, after, guard⟩ a w next Q := by
              intro cs ho hk
              obtain ⟨b, hE, hxe, _⟩ := var_cells hI ho hx'
              refine sound_value hI hd hn hk (x := .pointer (some ⟨b, off + f.offset, none⟩)) ?_ (.pm _ _ _ _ ⟨_, rfl⟩ ?_ fun _ => ⟨b, hE, rfl⟩)
              · simp only [execOp, hxe, Sem.run_bind, run]; rfl
              · cases hx' with | pm _ _ _ _ _ hg _ => exact hg
            split at h
            · rename_i g' cs ho
              replace h := bif_true h; obtain ⟨hgg, h⟩ := h
              have := Nat.eq_of_beq_eq_true hgg
              subst this
              exact go cs (.inl ho) h
            · rename_i g' cs ho
              replace h := bif_true h; obtain ⟨hgg, h⟩ := h
              have := Nat.eq_of_beq_eq_true hgg
              subst this
              exact go cs (.inr ho) h
            · first | exact h.elim | exact hX h
          · rename_i cs off he
            rw [he] at hx
            generalize hax : a.eval x = y at hx
            cases hx with
            | c _ _ hr =>
              cases hr with
              | pi _ b o _ f' hc hrep =>
                refine sound_value hI hd hn h (x := .pointer (some ⟨b, o + off + f.offset, none⟩)) ?_ (.c _ _ ?_)
                · simp only [execOp, hax, Sem.run_bind, run]; rfl
                · rw [Nat.add_assoc]; exact .pi cs b o _ f' hc hrep
          · first | exact h.elim | exact hX h
      · first | exact h.elim | exact hX h
    · first | exact h.elim | exact hX h
  · first | exact h.elim | exact hX h

theorem run_partAgg {t : TypeId} {i : TI} (hi : TOk1 P t i) {cs : List CV} {vs : List Value} {off : Nat} {c : CV} (hl : cs.length = vs.length)
    (hc : ∀ (j : Nat) (c : CV) (x : Value), cs[j]? = some c → vs[j]? = some x → Rep Z w c x) (ha : ∀ (j : Nat) (c : CV), cs[j]? = some c → c.atom = true) (hp : part i cs off = some c) :
    ∃ x, (Go.part t vs.toArray off).run P w = .ok x w ∧ Rep Z w c x := by
  unfold part at hp
  have hr := hi.isAggRun w
  cases hagg : i.isAgg with
  | false =>
    rw [hagg] at hp hr
    simp only [cond_false] at hp
    have hlt : off < cs.length := (List.getElem?_eq_some_iff.1 hp).1
    have hv : vs[off]? = some (vs[off]'(by omega)) := List.getElem?_eq_getElem (by omega)
    refine ⟨_, ?_, hc off c _ hp hv⟩
    simp [Go.part, hr, hv]
  | true =>
    rw [hagg] at hp hr
    simp only [cond_true] at hp
    cases hx : takeN i.size (cs.drop off) with
    | none => rw [hx] at hp; simp at hp
    | some xs =>
      rw [hx] at hp
      simp at hp
      subst hp
      obtain ⟨hxl, hj⟩ := takeN_spec _ _ _ hx
      have hat : ∀ (j : Nat) (c : CV), xs[j]? = some c → cs[off + j]? = some c := fun j c hjc => by
        have hlt : j < i.size := by rw [← hxl]; exact (List.getElem?_eq_some_iff.1 hjc).1
        rw [hj j hlt, List.getElem?_drop] at hjc
        exact hjc
      have hfit : i.size = 0 ∨ off + i.size ≤ cs.length := by
        rcases Nat.eq_zero_or_pos i.size with h0 | h0
        · exact .inl h0
        · right
          have hlast : ∃ c, xs[i.size - 1]? = some c := ⟨xs[i.size - 1]'(by omega), List.getElem?_eq_getElem (by omega)⟩
          obtain ⟨c, hlast⟩ := hlast
          have := (List.getElem?_eq_some_iff.1 (hat _ c hlast)).1
          omega
      refine ⟨.agg ((vs.drop off).take i.size).toArray, ?_, .agg xs _ ?_ (fun j c x hjc hjx => ?_) (fun j c hjc => ha _ c (hat j c hjc))⟩
      · simp [Go.part, hr, hi.sizeOf w]
      · rcases hfit with h0 | h0
        · simp [hxl, h0]
        · simp [hxl]; omega
      · have hlt : j < i.size := by rw [← hxl]; exact (List.getElem?_eq_some_iff.1 hjc).1
        rw [List.getElem?_take, if_pos hlt, List.getElem?_drop] at hjx
        exact hc _ c x (hat j c hjc) hjx

theorem sound_field (hT : TOk P T) (dst : Option Nat) (t : TypeId) (x : Operand) (k : Nat) (type : TypeId) (pos : String) (after : Array Edge) (guard : Option (Nat × Bool)) : OpSound P G T ⟨dst, .field t x k, type, pos, after, guard⟩ := by
  intro Z0 w0 S n Z E st a w K next Q F hI hd h hX hn
  have hx := look_rep hI x
  simp only [wpOp] at h
  split at h
  · rename_i fs _ _ _ _ _ cs hti he
    have hi := hT _ _ hti
    rw [he] at hx
    split at h
    · rename_i f hf
      split at h
      · rename_i i hfi
        split at h
        · rename_i c hp
          generalize hax : a.eval x = y at hx
          cases hx with
          | c _ _ hr =>
            cases hr with
            | agg _ vs hl hrep ha =>
              obtain ⟨v, hv, hvr⟩ := run_partAgg (hT _ _ hfi) hl hrep ha hp
              refine sound_value hI hd hn h (x := v) ?_ (.c _ _ hvr)
              have hu := hi.u
              simp only at hu
              simp [execOp, hax, Instr.field, run_underlying hu, hf, asAgg, hv]
        · first | exact h.elim | exact hX h
      · first | exact h.elim | exact hX h
    · first | exact h.elim | exact hX h
  · first | exact h.elim | exact hX h

theorem sound_indexAddr (hT : TOk P T) (dst : Option Nat) (t : TypeId) (x i : Operand) (type : TypeId) (pos : String) (after : Array Edge) (guard : Option (Nat × Bool)) : OpSound P G T ⟨dst, .indexAddr t x i, type, pos, after, guard⟩ := by
  intro Z0 w0 S n Z E st a w K next Q F hI hd h hX hn
  have hx := look_rep hI x
  have hi := look_rep hI i
  simp only [wpOp] at h
  split at h
  · rename_i e _ _ _ _ _ hti
    split at h
    · rename_i te sz ds k m hte hsl he
      obtain ⟨h0, hszz, d, hdd, hk⟩ := h
      have hs : sz = te.size := hszz.resolve_right (by omega)
      subst hs
      rw [he] at hi
      have hiv : a.eval i = .int k m := rep_cv hi
      have hr := asSl_rep hx hsl
      generalize hax : a.eval x = y at hr
      cases hr with
      | nil => simp at hdd
      | sl _ _ b o cap f hcap hsz hc hrep =>
        have hlt : m.toNat < ds.length := (List.getElem?_eq_some_iff.1 hdd).1
        refine sound_value hI hd hn hk (x := .pointer (some ⟨b, o + m.toNat * te.size, none⟩)) ?_ (.c _ _ ?_)
        · have hu := (hT _ _ hti).u
          simp only at hu
          have hm : 0 ≤ m ∧ m < (ds.length : Int) := ⟨h0, by omega⟩
          simp only [execOp, hax, hiv, Instr.indexAt, asIntOf, Sem.run_bind, Sem.run_pure, Result.andThen_ok, run_underlying hu, (hT _ _ hte).sizeOf w, if_pos hm, Addr.add_lit]
        · have := Rep.pi (Z := Z) (w := w) d b (o + m.toNat * te.size) 0 (fun j => f m.toNat j) (fun j c hj => hc _ j d c hdd hj) (fun j c hj => hrep _ j d c hdd hj)
          simpa using this
    · first | exact h.elim | exact hX h
  · first | exact h.elim | exact hX h

theorem sound_index (hT : TOk P T) (dst : Option Nat) (t : TypeId) (x i : Operand) (type : TypeId) (pos : String) (after : Array Edge) (guard : Option (Nat × Bool)) : OpSound P G T ⟨dst, .index t x i, type, pos, after, guard⟩ := by
  intro Z0 w0 S n Z E st a w K next Q F hI hd h hX hn
  have hx := look_rep hI x
  have hi := look_rep hI i
  simp only [wpOp] at h
  split at h
  · rename_i _ _ _ _ _ hti
    split at h
    · rename_i s k m h1 h2
      obtain ⟨h0, b, hb, hk⟩ := h
      rw [h1] at hx
      rw [h2] at hi
      have hxv : a.eval x = .string s := rep_cv hx
      have hiv : a.eval i = .int k m := rep_cv hi
      refine sound_value hI hd hn hk (x := .int .u8 b.toNat) ?_ (.c _ _ (.v _))
      have hu := (hT _ _ hti).u
      simp only at hu
      simp only [execOp, hxv, hiv, Instr.index, asIntOf, Sem.run_bind, Sem.run_pure, Result.andThen_ok, run_underlying hu, if_pos h0, hb]
    · first | exact h.elim | exact hX h
  · first | exact h.elim | exact hX h

theorem sound_extract (dst : Option Nat) (x : Operand) (k : Nat) (type : TypeId) (pos : String) (after : Array Edge) (guard : Option (Nat × Bool)) : OpSound P G T ⟨dst, .extract x k, type, pos, after, guard⟩ := by
  intro Z0 w0 S n Z E st a w K next Q F hI hd h hX hn
  have hx := look_rep hI x
  simp only [wpOp] at h
  split at h
  · rename_i vs he
    rw [he] at hx
    split at h
    · rename_i c hc
      generalize hax : a.eval x = y at hx
      cases hx with
      | c _ _ hr =>
        cases hr with
        | tup _ us hl hrep =>
          have hlt : k < vs.length := (List.getElem?_eq_some_iff.1 hc).1
          have hu : us[k]? = some (us[k]'(by omega)) := List.getElem?_eq_getElem (by omega)
          refine sound_value hI hd hn h (x := us[k]'(by omega)) ?_ (.c _ _ (hrep k c _ hc hu))
          simp [execOp, hax, Instr.extract, hu]
    · first | exact h.elim | exact hX h
  · first | exact h.elim | exact hX h

theorem sound_makeFunc (dst : Option Nat) (fn : Fn) (first captured : Array Operand) (type : TypeId) (pos : String) (after : Array Edge) (guard : Option (Nat × Bool)) : OpSound P G T ⟨dst, .makeFunc fn first captured, type, pos, after, guard⟩ := by
  intro Z0 w0 S n Z E st a w K next Q F hI hd h hX hn
  cases fn with
  | func f =>
    simp only [wpOp] at h
    obtain ⟨he, h⟩ := bif_true h
    have hemp : first = #[] := by simpa using he
    subst hemp
    refine sound_value hI hd hn h (x := .func (.func f) #[] (captured.map a.eval)) (by simp [execOp, Instr.makeFunc]) ?_
    have := RepS.fnr (Z := Z) (w := w) (obj := st.obj) (E := E) f (captured.toList.map (look st)) (captured.toList.map a.eval) (by simp) (fun i s x h1 h2 => by
      rw [List.getElem?_map] at h1 h2
      cases hc : captured.toList[i]? with
      | none => rw [hc] at h1; simp at h1
      | some op =>
        rw [hc] at h1 h2
        simp at h1 h2
        subst h1; subst h2
        exact look_rep hI op)
    rw [show (captured.map a.eval) = (captured.toList.map a.eval).toArray from by rw [← Array.toList_map, Array.toArray_toList]]
    exact this
  | _ => simp only [wpOp] at h; first | exact h.elim | exact hX h
end
end Go.Abs
