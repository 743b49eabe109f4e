/-
  Soundness of the operations on slices of the call's own that are written: reads, addresses, stores.
-/
import Derived.Test.YtmcolhhmlpicaaaDoorAbsMain
namespace Go.Abs
open Go Go.RowKit

section
variable {P : Program} {G : World → Prop} {T : Tab} {Z0 : Base} {w0 : World} {S : Nat → Prop} {n : Nat} {Z Z' : Zone} {E : Nat → Value} {st : St} {a : Act} {w w' : World}

/-- What an operation's lemma says, for the new rules. -/
def XSound (P : Program) (G : World → Prop) (T : Tab) (o : Oper) : Prop :=
  ∀ (Z0 : Base) (w0 : World) (S : Nat → Prop) (n : Nat) (Z : Zone) (E : Nat → Value) (st : St) (a : Act) (w : World) (K : KOp) (next : Act → World → Prop) (Q : Exit → Act → World → Prop),
    Inv G Z0 w0 S n Z E st a w → inRange n o.dst = true → wpX (orc P G) T (look st) st.obj o.dst o.op K →
    (∀ r rd u Z' E' x w', K r rd u → Inv G Z0 w0 S n Z' E' ⟨put st.env o.dst r, upd st.obj u⟩ (a.put o.dst x) w' → next (a.put o.dst x) w') → o.wp P a w next Q

theorem sv1_rep {obj : Objs} {c : CV} {x : Value} (h : RepX1 Z w obj E c x) : RepS Z w obj E (sv1 c) x := by
  cases h with
  | cl h => cases h <;> (simp only [sv1]; exact .c _ _ (by constructor <;> assumption))
  | rs t g x hs hg h => exact .rs t g x hs hg h
  | pr t g off x hs hg h => exact .pm t g off x hs hg h
  | mr t g x hs hg h => exact .mr t g x hs hg h
theorem svOf_rep {obj : Objs} {c : CV} {x : Value} (h : RepX Z w obj E c x) (hc : ∀ cs, c ≠ .agg cs) : RepS Z w obj E (svOf c) x := by
  cases h with
  | one h =>
    cases h with
    | cl h => cases h <;> first | exact absurd rfl (hc _) | (simp only [svOf]; exact .c _ _ (by constructor <;> assumption))
    | rs t g x hs hg h => exact .rs t g x hs hg h
    | pr t g off x hs hg h => exact .pm t g off x hs hg h
    | mr t g x hs hg h => exact .mr t g x hs hg h
  | fr f caps vs hl h =>
    refine .fnr f (caps.map sv1) vs (by simp [hl]) fun i s x h1 h2 => ?_
    rw [List.getElem?_map] at h1
    cases hi : caps[i]? with
    | none => rw [hi] at h1; simp at h1
    | some c => rw [hi] at h1; simp at h1; subst h1; exact sv1_rep (h i c x hi h2)
theorem cap1_rep {obj : Objs} {s : SV} {x : Value} {c : CV} (h : RepS Z w obj E s x) (hc : cap1 s = some c) : RepX1 Z w obj E c x := by
  unfold cap1 at hc
  split at hc
  · simp at hc; subst hc; cases h with | rs _ _ _ hs hg h => exact .rs _ _ _ hs hg h
  · simp at hc; subst hc; cases h with | pm _ _ _ _ hs hg h => exact .pr _ _ _ _ hs hg h
  · simp at hc; subst hc; cases h with | mr _ _ _ hs hg h => exact .mr _ _ _ hs hg h
  · exact .cl (asC_rep h hc)
theorem caps1_rep {obj : Objs} : ∀ {ss : List SV} {cs : List CV} {vs : List Value}, caps1 ss = some cs → ss.length = vs.length → (∀ (i : Nat) (s : SV) (x : Value), ss[i]? = some s → vs[i]? = some x → RepS Z w obj E s x) →
    cs.length = vs.length ∧ ∀ (i : Nat) (c : CV) (x : Value), cs[i]? = some c → vs[i]? = some x → RepX1 Z w obj E c x
  | [], cs, vs, hc, hl, _ => by
    simp [caps1] at hc
    subst hc
    exact ⟨hl, fun i c x h => by simp at h⟩
  | s :: r, cs, vs, hc, hl, h => by
    simp only [caps1] at hc
    split at hc
    · rename_i c cs' h1 h2
      simp at hc
      subst hc
      cases vs with
      | nil => simp at hl
      | cons v vs =>
        obtain ⟨k1, k2⟩ := caps1_rep (vs := vs) h2 (by simpa using hl) (fun i s x a b => h (i + 1) s x (by simpa using a) (by simpa using b))
        refine ⟨by simp [k1], fun i c' x a b => ?_⟩
        cases i with
        | zero => simp at a b; subst a; subst b; exact cap1_rep (h 0 s v rfl rfl) h1
        | succ i => exact k2 i c' x (by simpa using a) (by simpa using b)
    · simp at hc
theorem svOf_agg {obj : Objs} {cs : List CV} {vs : List Value} (hl : cs.length = vs.length) (h : ∀ (i : Nat) (c : CV) (x : Value), cs[i]? = some c → vs[i]? = some x → RepX Z w obj E c x)
    (ha : ∀ (i : Nat) (c : CV), cs[i]? = some c → c.atom = true) : RepS Z w obj E (svOf (.agg cs)) (.agg vs.toArray) := by
  simp only [svOf]
  cases hn : noRs cs with
  | true => exact .c _ _ (.agg cs vs hl (fun i c x h1 h2 => (h i c x h1 h2).closed (noRs_get hn h1)) ha)
  | false => exact .agx cs vs hl h ha

theorem run_partX {obj : Objs} {t : TypeId} {i : TI} (hi : TOk1 P t i) {cs : List CV} {b o off : Nat} {f : Nat → Value} {c : CV}
    (hc : ∀ (j : Nat) (c : CV), cs[j]? = some c → w.cell? ⟨b, o + j, none⟩ = some (f j) ∧ c.atom = true ∧ RepX Z w obj E c (f j)) (hp : part i cs off = some c) :
    ∃ x, (Instr.loadAt t (.pointer (some ⟨b, o + off, none⟩))).run P w = .ok x w ∧ RepS Z w obj E (svOf c) x := by
  unfold part at hp
  cases hagg : i.isAgg with
  | false =>
    rw [hagg] at hp
    simp only [cond_false] at hp
    obtain ⟨h1, h2, h3⟩ := hc off c hp
    refine ⟨f off, ?_, svOf_rep h3 (fun cs e => by rw [e] at h2; simp [CV.atom] at h2)⟩
    have hr := hi.isAggRun w
    rw [hagg] at hr
    simp [Instr.loadAt, Instr.sureAddr, loadVar, hr, Go.load, Sem.run, h1]
  | true =>
    rw [hagg] at hp
    simp only [cond_true] at hp
    cases hx : takeN i.size (cs.drop off) with
    | none => rw [hx] at hp; simp at hp
    | some xs =>
      rw [hx] at hp
      simp at hp
      subst hp
      obtain ⟨hl, hj⟩ := takeN_spec _ _ _ hx
      have hr := hi.isAggRun w
      rw [hagg] at hr
      have hat : ∀ (j : Nat) (c : CV), xs[j]? = some c → cs[off + j]? = some c := fun j c hjc => by
        have hlt : j < i.size := by rw [← hl]; exact (List.getElem?_eq_some_iff.1 hjc).1
        rw [hj j hlt, List.getElem?_drop] at hjc
        exact hjc
      let vals := (List.range i.size).map fun j => f (off + j)
      have hvl : vals.length = i.size := by simp [vals]
      have hcells := run_loadCells_list (P := P) w ⟨b, o + off, none⟩ vals (fun j v hjv => by
        have hlt : j < i.size := by rw [← hvl]; exact (List.getElem?_eq_some_iff.1 hjv).1
        have hxj : ∃ c, xs[j]? = some c := ⟨xs[j]'(by omega), List.getElem?_eq_getElem (by omega)⟩
        obtain ⟨c, hxc⟩ := hxj
        obtain ⟨h1, _, _⟩ := hc _ c (hat j c hxc)
        have : v = f (off + j) := by
          simp [vals, List.getElem?_map, List.getElem?_range hlt] at hjv
          exact hjv.symm
        rw [this, Addr.add_lit, Nat.add_assoc]
        exact h1)
      rw [hvl] at hcells
      refine ⟨.agg vals.toArray, ?_, svOf_agg (by omega) (fun j c x hjc hjx => ?_) (fun j c hjc => (hc _ c (hat j c hjc)).2.1)⟩
      · simp [Instr.loadAt, Instr.sureAddr, loadVar, hr, hi.sizeOf w, hcells]
      · have hlt : j < i.size := by rw [← hl]; exact (List.getElem?_eq_some_iff.1 hjc).1
        have : x = f (off + j) := by
          simp [vals, List.getElem?_map, List.getElem?_range hlt] at hjx
          exact hjx.symm
        rw [this]
        exact (hc _ c (hat j c hjc)).2.2

/-- The cells of a variable that holds slices of the call's own. -/
theorem varx_cells (hI : Inv G Z0 w0 S n Z E st a w) {s g : Nat} {cs : List CV} (h : st.obj s = (g, .varx cs)) {off : Nat} {x : Value} (hx : RepS Z w st.obj E (.pm s g off) x) :
    ∃ b, E s = .pointer (some ⟨b, 0, none⟩) ∧ x = .pointer (some ⟨b, off, none⟩) ∧ ∃ f : Nat → Value, ∀ (j : Nat) (c : CV), cs[j]? = some c → w.cell? ⟨b, j, none⟩ = some (f j) ∧ c.atom = true ∧ RepX Z w st.obj E c (f j) := by
  cases hx with
  | pm _ _ _ _ _ hg hl =>
    obtain ⟨b, hE, hxe⟩ := hl ⟨cs, .inr (.inr h)⟩
    refine ⟨b, hE, hxe, ?_⟩
    have ho := hI.obj s
    rw [h] at ho
    obtain ⟨b', el, arr, he, hh, hs, hc, _⟩ := ho
    have : b' = b := by rw [hE] at he; injection he with h1; injection h1 with h1; injection h1 with h1; exact h1.symm
    subst this
    refine ⟨fun j => arr.getD j undef, fun j c hj => ?_⟩
    obtain ⟨hat, x', hx', hr⟩ := hc j c hj
    have : arr.getD j undef = x' := by rw [Array.getD_eq_getD_getElem?, hx']; rfl
    simp only [this]
    exact ⟨(cell_of_row w b' j arr el (0, 0) hh).trans hx', hat, hr⟩

theorem cellsAt_spec {ds : List (List CV)} {foc : Option (Nat × List CV)} {m : Nat} {cs : List CV} (hf : FocOk ds foc) (h : cellsAt ds foc m cs) : m < ds.length ∧ cellX ds foc m = some cs := by
  unfold cellsAt at h
  unfold cellX
  split at h
  · exact ⟨(List.getElem?_eq_some_iff.1 h).1, h⟩
  · rename_i k d
    rcases h with ⟨rfl, rfl⟩ | ⟨hne, h⟩
    · exact ⟨hf.1 _ _ rfl, by simp⟩
    · exact ⟨(List.getElem?_eq_some_iff.1 h).1, by simp [hne, h]⟩
theorem idx_lt {i j len sz : Nat} (hi : i < len) (hj : j < sz) : i * sz + j < len * sz := by
  have : (i + 1) * sz ≤ len * sz := Nat.mul_le_mul_right _ hi
  rw [Nat.add_mul, Nat.one_mul] at this
  omega
theorem own_form {base e size m : Nat} {v : Value} {xs : List Value} (h : w.ownsRow base e size v m xs) (hn : 0 < m) : ∃ g cap, v = .slice (some ⟨g, 0, none⟩) m cap ∧ base ≤ g ∧ g < w.heap.size := by
  rcases h.2 with ⟨_, h0⟩ | ⟨g, cap, cur, hv, hb, hg, _⟩
  · omega
  · exact ⟨g, cap, hv, hb, (Array.getElem?_eq_some_iff.1 hg).1⟩
/-- The cells of an element of a slice of the call's own. -/
theorem arr_cells (hI : Inv G Z0 w0 S n Z E st a w) {s g el sz : Nat} {ds : List (List CV)} {foc : Option (Nat × List CV)} (h : st.obj s = (g, .arr el sz ds foc)) {m : Nat} {cs : List CV} (hm : m < ds.length) (hcs : cellX ds foc m = some cs) :
    ∃ b l k, E s = .slice (some ⟨b, 0, none⟩) l k ∧ cs.length = sz ∧ ∃ f : Nat → Value, ∀ (j : Nat) (c : CV), cs[j]? = some c → w.cell? ⟨b, m * sz + j, none⟩ = some (f j) ∧ c.atom = true ∧ RepX Z w st.obj E c (f j) := by
  have ho := hI.obj s
  rw [h] at ho
  obtain ⟨xs, hsz, hown, hfoc, hdl, hcl, hz⟩ := ho
  obtain ⟨b, cap, hE, hb, hlt⟩ := own_form hown (by omega)
  refine ⟨b, ds.length, cap, hE, hdl m cs hm hcs, fun j => xs.getD (m * sz + j) undef, fun j c hj => ?_⟩
  obtain ⟨hat, u, hu, hr⟩ := hcl m cs hm hcs j c hj
  have hlt2 : m * sz + j < ds.length * sz := by rw [← hown.1]; exact (List.getElem?_eq_some_iff.1 hu).1
  have : xs.getD (m * sz + j) undef = u := by rw [List.getD_eq_getElem?_getD, hu]; rfl
  rw [hE] at hown
  simp only [this]
  exact ⟨by rw [hown.cellAt _ hlt2, hu], hat, hr⟩

theorem xsound_load (hT : TOk P T) (dst : Option Nat) (t : TypeId) (x : Operand) (type : TypeId) (pos : String) (after : Array Edge) (guard : Option (Nat × Bool)) : XSound P G T ⟨dst, .load t x, type, pos, after, guard⟩ := by
  intro Z0 w0 S n Z E st a w K next Q hI hd h hn
  have hx := look_rep hI x
  simp only [wpX] at h
  split at h
  · rename_i i hti
    have hi := hT _ _ hti
    have fin : ∀ (b o off : Nat) (cs : List CV) (f : Nat → Value) (c : CV) (rd : List Nat), a.eval x = .pointer (some ⟨b, o + off, none⟩) →
        (∀ (j : Nat) (c : CV), cs[j]? = some c → w.cell? ⟨b, o + j, none⟩ = some (f j) ∧ c.atom = true ∧ RepX Z w st.obj E c (f j)) → part i cs off = some c → K (svOf c) rd [] →
        Oper.wp P ⟨dst, .load t x, type, pos, after, guard⟩ a w next Q := by
      intro b o off cs f c rd he hc hp hk
      obtain ⟨v, hv, hrep⟩ := run_partX hi hc hp
      refine sound_value hI hd hn hk (x := v) ?_ hrep
      simp only [execOp, he, Sem.run_bind, hv]
      rfl
    split at h
    · rename_i s g off he
      rw [he] at hx
      split at h
      · rename_i g' cs ho
        replace h := bif_true h; obtain ⟨hgg, h⟩ := h
        have := Nat.eq_of_beq_eq_true hgg
        subst this
        split at h
        · rename_i c hp
          obtain ⟨b, _, hxe, f, hc⟩ := varx_cells hI ho hx
          exact fin b 0 off cs f c _ (by rw [hxe, Nat.zero_add]) (fun j c hj => by rw [Nat.zero_add]; exact hc j c hj) hp h
        · exact h.elim
      · exact h.elim
    · rename_i s g m off he
      rw [he] at hx
      split at h
      · rename_i g' el sz ds foc ho
        replace h := bif_true h; obtain ⟨hgg, h⟩ := h
        have := Nat.eq_of_beq_eq_true hgg
        subst this
        obtain ⟨cs, hcs, h⟩ := h
        split at h
        · rename_i c hp
          have hfoc : FocOk ds foc := by have := hI.obj s; rw [ho] at this; exact this.choose_spec.2.2.1
          obtain ⟨hm, hcx⟩ := cellsAt_spec hfoc hcs
          obtain ⟨b, l, k, hE, _, f, hc⟩ := arr_cells hI ho hm hcx
          have hxe : a.eval x = .pointer (some ⟨b, m * sz + off, none⟩) := by
            generalize a.eval x = y at hx
            cases hx with
            | pe _ _ _ _ _ _ hp' =>
              obtain ⟨b', l', k', hE', hy⟩ := hp' _ _ _ _ ho
              rw [hE] at hE'
              simp at hE'
              rw [hy, hE'.1]
          exact fin b (m * sz) off cs f c _ hxe hc hp h
        · exact h.elim
      · exact h.elim
    · exact h.elim
  · exact h.elim

theorem xsound_nilCheck (dst : Option Nat) (x : Operand) (type : TypeId) (pos : String) (after : Array Edge) (guard : Option (Nat × Bool)) : XSound P G T ⟨dst, .nilCheck x, type, pos, after, guard⟩ := by
  intro Z0 w0 S n Z E st a w K next Q hI hd h hn
  have hx := look_rep hI x
  have fin : ∀ (b off : Nat) (rd : List Nat), a.eval x = .pointer (some ⟨b, off, none⟩) → K (look st x) rd [] → Oper.wp P ⟨dst, .nilCheck x, type, pos, after, guard⟩ a w next Q := by
    intro b off rd he hk
    exact sound_value hI hd hn hk (x := a.eval x) (by simp [execOp, he]) hx
  simp only [wpX] at h
  split at h
  · rename_i s g off he
    have hx' := hx
    rw [he] at hx'
    split at h
    · rename_i g' cs ho
      replace h := bif_true h; obtain ⟨hgg, h⟩ := h
      have := Nat.eq_of_beq_eq_true hgg
      subst this
      obtain ⟨b, _, hxe, _⟩ := varx_cells hI ho hx'
      exact fin b off _ hxe h
    · exact h.elim
  · rename_i s g m off he
    have hx' := hx
    rw [he] at hx'
    split at h
    · rename_i g' el sz ds foc ho
      replace h := bif_true h; obtain ⟨hgg, h⟩ := h
      have := Nat.eq_of_beq_eq_true hgg
      subst this
      generalize hax : a.eval x = y at hx'
      cases hx' with
      | pe _ _ _ _ _ _ hp' =>
        obtain ⟨b', l', k', hE', hy⟩ := hp' _ _ _ _ ho
        exact fin _ _ _ (hax.trans hy) h
    · exact h.elim
  · exact h.elim

theorem xsound_fieldAddr (hT : TOk P T) (dst : Option Nat) (t : TypeId) (x : Operand) (k : Nat) (type : TypeId) (pos : String) (after : Array Edge) (guard : Option (Nat × Bool)) : XSound P G T ⟨dst, .fieldAddr t x k, type, pos, after, guard⟩ := by
  intro Z0 w0 S n Z E st a w K next Q hI hd h hn
  have hx := look_rep hI x
  simp only [wpX] at h
  split at h
  · rename_i fs _ _ _ _ _ hti
    have hi := hT _ _ hti
    split at h
    · rename_i f hf
      split at h
      · rename_i i hfi
        have hfi' := hT _ _ hfi
        cases hz : Nat.beq i.size 0 with
        | true => rw [hz] at h; exact h.elim
        | false =>
          rw [hz] at h
          simp only [cond_false] at h
          have hne : i.size ≠ 0 := fun e => by rw [e] at hz; exact Bool.noConfusion hz
          have run : ∀ b off, (Instr.fieldAt t (.pointer (some ⟨b, off, none⟩)) k).run P w = .ok (.pointer (some ⟨b, off + f.offset, none⟩)) w := by
            intro b off
            have hu := hi.u
            simp only at hu
            simp [Instr.fieldAt, run_underlying hu, hf, Instr.sureAddr, fieldPlace, hfi'.sizeOf w, hne, Addr.add_lit]
          split at h
          · rename_i s g off he
            have hx' := hx
            rw [he] at hx'
            split at h
            · rename_i g' cs ho
              replace h := bif_true h; obtain ⟨hgg, h⟩ := h
              have := Nat.eq_of_beq_eq_true hgg
              subst this
              obtain ⟨b, hE, hxe, _⟩ := varx_cells hI ho hx'
              refine sound_value hI hd hn h (x := .pointer (some ⟨b, off + f.offset, none⟩)) ?_ (.pm _ _ _ _ ⟨_, rfl⟩ ?_ fun _ => ⟨b, hE, rfl⟩)
              · simp only [execOp, hxe, Sem.run_bind, run]; rfl
              · cases hx' with | pm _ _ _ _ _ hg _ => exact hg
            · exact h.elim
          · rename_i s g m off he
            have hx' := hx
            rw [he] at hx'
            split at h
            · rename_i g' el sz ds foc ho
              replace h := bif_true h; obtain ⟨hgg, h⟩ := h
              have := Nat.eq_of_beq_eq_true hgg
              subst this
              generalize hax : a.eval x = y at hx'
              cases hx' with
              | pe _ _ _ _ _ hg hp' =>
                obtain ⟨b, l, k', hE, hy⟩ := hp' _ _ _ _ ho
                refine sound_value hI hd hn h (x := .pointer (some ⟨b, m * sz + off + f.offset, none⟩)) ?_ (.pe _ _ _ _ _ hg fun el' sz' ds' foc' ho' => ?_)
                · simp only [execOp, hax, hy, Sem.run_bind, run]; rfl
                · rw [ho] at ho'
                  simp only [Prod.mk.injEq, AObj.arr.injEq, true_and] at ho'
                  obtain ⟨_, rfl, _⟩ := ho'
                  exact ⟨b, l, k', hE, by rw [Nat.add_assoc]⟩
            · exact h.elim
          · exact h.elim
      · exact h.elim
    · exact h.elim
  · exact h.elim

theorem cellsSV_rep {obj : Objs} {s : SV} {x : Value} {ys : List CV} (h : RepS Z w obj E s x) (hy : cellsSV s = some ys) :
    x.cells.size = ys.length ∧ ∀ (j : Nat) (d : CV), ys[j]? = some d → d.atom = true ∧ ∃ y, x.cells[j]? = some y ∧ RepX Z w obj E d y := by
  have closed : ∀ c, asC s = some c → c.storable = true → x.cells.size = c.cells.length ∧ ∀ (j : Nat) (d : CV), c.cells[j]? = some d → d.atom = true ∧ ∃ y, x.cells[j]? = some y ∧ RepX Z w obj E d y := by
    intro c hc hs
    obtain ⟨h1, h2⟩ := cells_rep (asC_rep h hc) hs
    exact ⟨h1, fun j d hj => ⟨(h2 j d hj).1, by obtain ⟨_, y, hy, hr⟩ := h2 j d hj; exact ⟨y, hy, .cl hr⟩⟩⟩
  unfold cellsSV at hy
  split at hy
  · rename_i t g
    simp at hy
    subst hy
    cases h with
    | rs _ _ _ hs hg h =>
      obtain ⟨aa, l, k, rfl⟩ := hs
      refine ⟨by simp [Value.cells], fun j d hj => ?_⟩
      match j, hj with
      | 0, hj => simp at hj; subst hj; exact ⟨rfl, .slice aa l k, by simp [Value.cells], .one (.rs t g _ ⟨aa, l, k, rfl⟩ hg h)⟩
      | j + 1, hj => simp at hj
  · rename_i t g off
    simp at hy
    subst hy
    cases h with
    | pm _ _ _ _ hs hg h =>
      obtain ⟨p, rfl⟩ := hs
      refine ⟨by simp [Value.cells], fun j d hj => ?_⟩
      match j, hj with
      | 0, hj => simp at hj; subst hj; exact ⟨rfl, .pointer p, by simp [Value.cells], .one (.pr t g off _ ⟨p, rfl⟩ hg h)⟩
      | j + 1, hj => simp at hj
  · rename_i t g
    simp at hy
    subst hy
    cases h with
    | mr _ _ _ hs hg h =>
      obtain ⟨p, rfl⟩ := hs
      refine ⟨by simp [Value.cells], fun j d hj => ?_⟩
      match j, hj with
      | 0, hj => simp at hj; subst hj; exact ⟨rfl, .map p, by simp [Value.cells], .one (.mr t g _ ⟨p, rfl⟩ hg h)⟩
      | j + 1, hj => simp at hj
  · rename_i f caps
    cases hcs : caps1 caps with
    | none => rw [hcs] at hy; simp at hy
    | some cs =>
      rw [hcs] at hy
      simp at hy
      subst hy
      cases h with
      | fnr _ _ vs hl h =>
        obtain ⟨k1, k2⟩ := caps1_rep hcs hl h
        refine ⟨by simp [Value.cells], fun j d hj => ?_⟩
        match j, hj with
        | 0, hj => simp at hj; subst hj; exact ⟨rfl, .func (.func f) #[] vs.toArray, by simp [Value.cells], .fr f cs vs k1 k2⟩
        | j + 1, hj => simp at hj
  · rename_i cs
    simp at hy
    subst hy
    cases h with
    | agx _ vs hl hr ha =>
      refine ⟨by simp [Value.cells, hl], fun j d hj => ⟨ha j d hj, ?_⟩⟩
      have hlt : j < cs.length := (List.getElem?_eq_some_iff.1 hj).1
      have hv : vs[j]? = some (vs[j]'(by omega)) := List.getElem?_eq_getElem (by omega)
      exact ⟨_, by simp [Value.cells, hv], hr j d _ hj hv⟩
  · split at hy
    · rename_i c hc
      cases hs : c.storable with
      | false => rw [hs] at hy; simp at hy
      | true => rw [hs] at hy; simp at hy; subst hy; exact closed c hc hs
    · simp at hy

theorem RepX.oneC {obj : Objs} {c : CV} {x : Value} (h : RepX Z w obj E c x) (ha : c.atom = true) : x.oneCell' = true := by
  cases h with
  | one h =>
    cases h with
    | cl h => exact h.atom ha
    | rs t g x hs hg h => obtain ⟨aa, l, k, rfl⟩ := hs; rfl
    | pr t g off x hs hg h => obtain ⟨p, rfl⟩ := hs; rfl
    | mr t g x hs hg h => obtain ⟨p, rfl⟩ := hs; rfl
  | fr f caps vs hl h => rfl
theorem cells_one {obj : Objs} {ys : List CV} {x : Value} (hs : x.cells.size = ys.length) (hc : ∀ (j : Nat) (d : CV), ys[j]? = some d → d.atom = true ∧ ∃ y, x.cells[j]? = some y ∧ RepX Z w obj E d y) : ∀ v ∈ x.cells.toList, v.oneCell' = true := by
  intro v hv
  obtain ⟨j, hj, hjv⟩ := List.getElem_of_mem hv
  have hj' : j < ys.length := by rw [← hs]; simpa using hj
  obtain ⟨hat, u, hu, hr⟩ := hc j _ (List.getElem?_eq_getElem hj')
  have : u = v := by
    rw [Array.getElem?_eq_getElem (by simpa using hj)] at hu
    simp at hu hjv
    rw [← hu, ← hjv]
  subst this
  exact hr.oneC hat
/-- Reading behind a store of some cells in a row. -/
theorem row_get {cur : Array Value} {vs : List Value} {o : Nat} (hfit : o + vs.length ≤ cur.size) (j : Nat) :
    ((cur.toList.take (o + 0) ++ vs ++ cur.toList.drop (o + 0 + vs.length)).toArray)[j]? = if o ≤ j ∧ j < o + vs.length then vs[j - o]? else cur[j]? := by
  simp only [Nat.add_zero, List.getElem?_toArray, List.append_assoc]
  have hl1 : (cur.toList.take o).length = o := by simp; omega
  by_cases hjo : j < o
  · rw [List.getElem?_append_left (by omega), List.getElem?_take, if_pos hjo, if_neg (by omega)]; simp
  · rw [List.getElem?_append_right (by omega), hl1]
    by_cases hjk : j < o + vs.length
    · rw [List.getElem?_append_left (by omega), if_pos (by omega)]
    · rw [List.getElem?_append_right (by omega), if_neg (by omega), List.getElem?_drop]
      simp only [Array.getElem?_toList]
      congr 1
      omega
theorem row_size {cur : Array Value} {vs : List Value} {o : Nat} (hfit : o + vs.length ≤ cur.size) : (cur.toList.take (o + 0) ++ vs ++ cur.toList.drop (o + 0 + vs.length)).toArray.size = cur.size := by
  simp; omega
end
end Go.Abs
