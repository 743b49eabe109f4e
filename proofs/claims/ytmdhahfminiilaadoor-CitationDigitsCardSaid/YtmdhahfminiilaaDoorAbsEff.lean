import Derived.Test.YtmdhahfminiilaaDoorAbsMain
set_option linter.unusedVariables false
set_option linter.unusedSimpArgs false
/-
  Soundness of the operations on slices of the call's own that are written: reads, addresses, stores.
-/
namespace Go.Abs
open Go Go.RowKit

section
variable {P : Program} {G : World → Prop} {T : Tab} {Z0 : Base} {w0 : World} {S : Nat → Prop} {n : Nat} {Z Z' : Zone} {E : Nat → Value} {st : St} {a : Act} {w w' : World}

/-- What an operation's lemma says, for the new rules. -/
def XSound (P : Program) (G : World → Prop) (T : Tab) (o : Oper) : Prop :=
  ∀ (Z0 : Base) (w0 : World) (S : Nat → Prop) (n : Nat) (Z : Zone) (E : Nat → Value) (st : St) (a : Act) (w : World) (K : KOp) (next : Act → World → Prop) (Q : Exit → Act → World → Prop),
    Inv G Z0 w0 S n Z E st a w → inRange n o.dst = true → wpX (orc P G) T (look st) st.obj o.dst o.op K →
    (∀ r rd u Z' E' x w', K r rd u → Inv G Z0 w0 S n Z' E' ⟨put st.env o.dst r, upd st.obj u⟩ (a.put o.dst x) w' → next (a.put o.dst x) w') → Oper.wpE P o a w next Q

theorem sv1_rep {obj : Objs} {c : CV} {x : Value} (h : RepX1 Z w obj E c x) : RepS Z w obj E (sv1 c) x := by
  cases h with
  | cl h => cases h <;> (simp only [sv1]; exact .c _ _ (by constructor <;> assumption))
  | rs t g x hs hg h => exact .rs t g x hs hg h
  | pr t g off x hs hg h => exact .pm t g off x hs hg h
  | mr t g x hs hg h => exact .mr t g x hs hg h
  | xr t g x hs hg h => exact .xr t g x hs hg h
  | bp => exact .any _
theorem svOf_rep {obj : Objs} {c : CV} {x : Value} (h : RepX Z w obj E c x) (hc : ∀ cs, c ≠ .agg cs) : RepS Z w obj E (svOf c) x := by
  cases h with
  | one h =>
    cases h with
    | cl h => cases h <;> first | exact absurd rfl (hc _) | (simp only [svOf]; exact .c _ _ (by constructor <;> assumption))
    | rs t g x hs hg h => exact .rs t g x hs hg h
    | pr t g off x hs hg h => exact .pm t g off x hs hg h
    | mr t g x hs hg h => exact .mr t g x hs hg h
    | xr t g x hs hg h => exact .xr t g x hs hg h
    | bp => exact .any _
  | fr f caps vs hl h =>
    refine .fnr (.fn f) (caps.map sv1) vs trivial (by simp [hl]) fun i s x h1 h2 => ?_
    rw [List.getElem?_map] at h1
    cases hi : caps[i]? with
    | none => rw [hi] at h1; simp at h1
    | some c => rw [hi] at h1; simp at h1; subst h1; exact sv1_rep (h i c x hi h2)
theorem cap1_rep {obj : Objs} {s : SV} {x : Value} {c : CV} (h : RepS Z w obj E s x) (hc : cap1 s = some c) : RepX1 Z w obj E c x := by
  unfold cap1 at hc
  split at hc
  · simp at hc; subst hc; cases h with | rs _ _ _ hs hg h => exact .rs _ _ _ hs hg h
  · simp at hc; subst hc; cases h with | pm _ _ _ _ hs hg h => exact .pr _ _ _ _ hs hg h
  · simp at hc; subst hc; cases h with | mr _ _ _ hs hg h => exact .mr _ _ _ hs hg h
  · simp at hc; subst hc; cases h with | xr _ _ _ hs hg h => exact .xr _ _ _ hs hg h
  · exact .cl (asC_rep h hc)
theorem caps1_rep {obj : Objs} : ∀ {ss : List SV} {cs : List CV} {vs : List Value}, caps1 ss = some cs → ss.length = vs.length → (∀ (i : Nat) (s : SV) (x : Value), ss[i]? = some s → vs[i]? = some x → RepS Z w obj E s x) →
    cs.length = vs.length ∧ ∀ (i : Nat) (c : CV) (x : Value), cs[i]? = some c → vs[i]? = some x → RepX1 Z w obj E c x
  | [], cs, vs, hc, hl, _ => by
    simp [caps1] at hc
    subst hc
    exact ⟨hl, fun i c x h => by simp at h⟩
  | s :: r, cs, vs, hc, hl, h => by
    simp only [caps1] at hc
    split at hc
    · rename_i c cs' h1 h2
      simp at hc
      subst hc
      cases vs with
      | nil => simp at hl
      | cons v vs =>
        obtain ⟨k1, k2⟩ := caps1_rep (vs := vs) h2 (by simpa using hl) (fun i s x a b => h (i + 1) s x (by simpa using a) (by simpa using b))
        refine ⟨by simp [k1], fun i c' x a b => ?_⟩
        cases i with
        | zero => simp at a b; subst a; subst b; exact cap1_rep (h 0 s v rfl rfl) h1
        | succ i => exact k2 i c' x (by simpa using a) (by simpa using b)
    · simp at hc
theorem svOf_agg {obj : Objs} {cs : List CV} {vs : List Value} (hl : cs.length = vs.length) (h : ∀ (i : Nat) (c : CV) (x : Value), cs[i]? = some c → vs[i]? = some x → RepX Z w obj E c x)
    (ha : ∀ (i : Nat) (c : CV), cs[i]? = some c → c.atom = true) : RepS Z w obj E (svOf (.agg cs)) (.agg vs.toArray) := by
  simp only [svOf]
  cases hn : noRs cs with
  | true => exact .c _ _ (.agg cs vs hl (fun i c x h1 h2 => (h i c x h1 h2).closed (noRs_get hn h1)) ha)
  | false => exact .agx cs vs hl h ha

theorem run_partX {obj : Objs} {t : TypeId} {i : TI} (hi : TOk1 P t i) {cs : List CV} {b o off : Nat} {f : Nat → Value} {c : CV}
    (hc : ∀ (j : Nat) (c : CV), cs[j]? = some c → w.cell? ⟨b, o + j, none⟩ = some (f j) ∧ c.atom = true ∧ RepX Z w obj E c (f j)) (hp : part i cs off = some c) :
    ∃ x, (Instr.loadAt t (.pointer (some ⟨b, o + off, none⟩))).run P w = .ok x w ∧ RepS Z w obj E (svOf c) x := by
  unfold part at hp
  cases hagg : i.isAgg with
  | false =>
    rw [hagg] at hp
    simp only [cond_false] at hp
    obtain ⟨h1, h2, h3⟩ := hc off c hp
    refine ⟨f off, ?_, svOf_rep h3 (fun cs e => by rw [e] at h2; simp [CV.atom] at h2)⟩
    have hr := hi.isAggRun w
    rw [hagg] at hr
    simp [Instr.loadAt, Instr.sureAddr, loadVar, hr, Go.load, Sem.run, h1]
  | true =>
    rw [hagg] at hp
    simp only [cond_true] at hp
    cases hx : takeN i.size (cs.drop off) with
    | none => rw [hx] at hp; simp at hp
    | some xs =>
      rw [hx] at hp
      simp at hp
      subst hp
      obtain ⟨hl, hj⟩ := takeN_spec _ _ _ hx
      have hr := hi.isAggRun w
      rw [hagg] at hr
      have hat : ∀ (j : Nat) (c : CV), xs[j]? = some c → cs[off + j]? = some c := fun j c hjc => by
        have hlt : j < i.size := by rw [← hl]; exact (List.getElem?_eq_some_iff.1 hjc).1
        rw [hj j hlt, List.getElem?_drop] at hjc
        exact hjc
      let vals := (List.range i.size).map fun j => f (off + j)
      have hvl : vals.length = i.size := by simp [vals]
      have hcells := run_loadCells_list (P := P) w ⟨b, o + off, none⟩ vals (fun j v hjv => by
        have hlt : j < i.size := by rw [← hvl]; exact (List.getElem?_eq_some_iff.1 hjv).1
        have hxj : ∃ c, xs[j]? = some c := ⟨xs[j]'(by omega), List.getElem?_eq_getElem (by omega)⟩
        obtain ⟨c, hxc⟩ := hxj
        obtain ⟨h1, _, _⟩ := hc _ c (hat j c hxc)
        have : v = f (off + j) := by
          simp [vals, List.getElem?_map, List.getElem?_range hlt] at hjv
          exact hjv.symm
        rw [this, Addr.add_lit, Nat.add_assoc]
        exact h1)
      rw [hvl] at hcells
      refine ⟨.agg vals.toArray, ?_, svOf_agg (by omega) (fun j c x hjc hjx => ?_) (fun j c hjc => (hc _ c (hat j c hjc)).2.1)⟩
      · simp [Instr.loadAt, Instr.sureAddr, loadVar, hr, hi.sizeOf w, hcells]
      · have hlt : j < i.size := by rw [← hl]; exact (List.getElem?_eq_some_iff.1 hjc).1
        have : x = f (off + j) := by
          simp [vals, List.getElem?_map, List.getElem?_range hlt] at hjx
          exact hjx.symm
        rw [this]
        exact (hc _ c (hat j c hjc)).2.2

/-- The cells of a variable that holds slices of the call's own. -/
theorem varx_cells (hI : Inv G Z0 w0 S n Z E st a w) {s g : Nat} {cs : List CV} (h : st.obj s = (g, .varx cs)) {off : Nat} {x : Value} (hx : RepS Z w st.obj E (.pm s g off) x) :
    ∃ b, E s = .pointer (some ⟨b, 0, none⟩) ∧ x = .pointer (some ⟨b, off, none⟩) ∧ ∃ f : Nat → Value, ∀ (j : Nat) (c : CV), cs[j]? = some c → w.cell? ⟨b, j, none⟩ = some (f j) ∧ c.atom = true ∧ RepX Z w st.obj E c (f j) := by
  cases hx with
  | pm _ _ _ _ _ hg hl =>
    obtain ⟨b, hE, hxe⟩ := hl ⟨cs, .inr (.inr h)⟩
    refine ⟨b, hE, hxe, ?_⟩
    have ho := hI.obj s
    rw [h] at ho
    obtain ⟨b', el, arr, he, hh, hs, hc, _⟩ := ho
    have : b' = b := by rw [hE] at he; injection he with h1; injection h1 with h1; injection h1 with h1; exact h1.symm
    subst this
    refine ⟨fun j => arr.getD j undef, fun j c hj => ?_⟩
    obtain ⟨hat, x', hx', hr⟩ := hc j c hj
    have : arr.getD j undef = x' := by rw [Array.getD_eq_getD_getElem?, hx']; rfl
    simp only [this]
    exact ⟨(cell_of_row w b' j arr el (0, 0) hh).trans hx', hat, hr⟩

theorem cellsAt_spec {ds : List (List CV)} {foc : Option (Nat × List CV)} {m : Nat} {cs : List CV} (hf : FocOk ds foc) (h : cellsAt ds foc m cs) : m < ds.length ∧ cellX ds foc m = some cs := by
  unfold cellsAt at h
  unfold cellX
  split at h
  · exact ⟨(List.getElem?_eq_some_iff.1 h).1, h⟩
  · rename_i k d
    rcases h with ⟨rfl, rfl⟩ | ⟨hne, h⟩
    · exact ⟨hf.1 _ _ rfl, by simp⟩
    · exact ⟨(List.getElem?_eq_some_iff.1 h).1, by simp [hne, h]⟩
theorem idx_lt {i j len sz : Nat} (hi : i < len) (hj : j < sz) : i * sz + j < len * sz := by
  have : (i + 1) * sz ≤ len * sz := Nat.mul_le_mul_right _ hi
  rw [Nat.add_mul, Nat.one_mul] at this
  omega
theorem own_form {base e size m : Nat} {v : Value} {xs : List Value} (h : w.ownsRow base e size v m xs) (hn : 0 < m) : ∃ g cap, v = .slice (some ⟨g, 0, none⟩) m cap ∧ base ≤ g ∧ g < w.heap.size := by
  rcases h.2 with ⟨_, h0⟩ | ⟨g, cap, cur, hv, hb, hg, _⟩
  · omega
  · exact ⟨g, cap, hv, hb, (Array.getElem?_eq_some_iff.1 hg).1⟩
/-- The cells of an element of a slice of the call's own. -/
theorem arr_cells (hI : Inv G Z0 w0 S n Z E st a w) {s g el sz : Nat} {ds : List (List CV)} {foc : Option (Nat × List CV)} (h : st.obj s = (g, .arr el sz ds foc)) {m : Nat} {cs : List CV} (hm : m < ds.length) (hcs : cellX ds foc m = some cs) :
    ∃ b l k, E s = .slice (some ⟨b, 0, none⟩) l k ∧ cs.length = sz ∧ ∃ f : Nat → Value, ∀ (j : Nat) (c : CV), cs[j]? = some c → w.cell? ⟨b, m * sz + j, none⟩ = some (f j) ∧ c.atom = true ∧ RepX Z w st.obj E c (f j) := by
  have ho := hI.obj s
  rw [h] at ho
  obtain ⟨xs, hsz, hown, hfoc, hdl, hcl, hz⟩ := ho
  obtain ⟨b, cap, hE, hb, hlt⟩ := own_form hown (by omega)
  refine ⟨b, ds.length, cap, hE, hdl m cs hm hcs, fun j => xs.getD (m * sz + j) undef, fun j c hj => ?_⟩
  obtain ⟨hat, u, hu, hr⟩ := hcl m cs hm hcs j c hj
  have hlt2 : m * sz + j < ds.length * sz := by rw [← hown.1]; exact (List.getElem?_eq_some_iff.1 hu).1
  have : xs.getD (m * sz + j) undef = u := by rw [List.getD_eq_getElem?_getD, hu]; rfl
  rw [hE] at hown
  simp only [this]
  exact ⟨by rw [hown.cellAt _ hlt2, hu], hat, hr⟩

theorem xsound_load (hT : TOk P T) (dst : Option Nat) (t : TypeId) (x : Operand) (type : TypeId) (pos : String) (after : Array Edge) (guard : Option (Nat × Bool)) : XSound P G T ⟨dst, .load t x, type, pos, after, guard⟩ := by
  intro Z0 w0 S n Z E st a w K next Q hI hd h hn
  have hx := look_rep hI x
  simp only [wpX] at h
  split at h
  · rename_i i hti
    have hi := hT _ _ hti
    have fin : ∀ (b o off : Nat) (cs : List CV) (f : Nat → Value) (c : CV) (rd : List Nat), a.eval x = .pointer (some ⟨b, o + off, none⟩) →
        (∀ (j : Nat) (c : CV), cs[j]? = some c → w.cell? ⟨b, o + j, none⟩ = some (f j) ∧ c.atom = true ∧ RepX Z w st.obj E c (f j)) → part i cs off = some c → K (svOf c) rd [] →
        Oper.wpE P ⟨dst, .load t x, type, pos, after, guard⟩ a w next Q := by
      intro b o off cs f c rd he hc hp hk
      obtain ⟨v, hv, hrep⟩ := run_partX hi hc hp
      refine sound_value hI hd hn hk (x := v) ?_ hrep
      simp only [execOp, he, Sem.run_bind, hv]
      rfl
    split at h
    · rename_i s g off he
      rw [he] at hx
      split at h
      · rename_i g' cs ho
        replace h := bif_true h; obtain ⟨hgg, h⟩ := h
        have := Nat.eq_of_beq_eq_true hgg
        subst this
        split at h
        · rename_i c hp
          obtain ⟨b, _, hxe, f, hc⟩ := varx_cells hI ho hx
          exact fin b 0 off cs f c _ (by rw [hxe, Nat.zero_add]) (fun j c hj => by rw [Nat.zero_add]; exact hc j c hj) hp h
        · exact h.elim
      · exact h.elim
    · rename_i s g m off he
      rw [he] at hx
      split at h
      · rename_i g' el sz ds foc ho
        replace h := bif_true h; obtain ⟨hgg, h⟩ := h
        have := Nat.eq_of_beq_eq_true hgg
        subst this
        obtain ⟨cs, hcs, h⟩ := h
        split at h
        · rename_i c hp
          have hfoc : FocOk ds foc := by have := hI.obj s; rw [ho] at this; exact this.choose_spec.2.2.1
          obtain ⟨hm, hcx⟩ := cellsAt_spec hfoc hcs
          obtain ⟨b, l, k, hE, _, f, hc⟩ := arr_cells hI ho hm hcx
          have hxe : a.eval x = .pointer (some ⟨b, m * sz + off, none⟩) := by
            generalize a.eval x = y at hx
            cases hx with
            | pe _ _ _ _ _ _ hp' =>
              obtain ⟨b', l', k', hE', hy⟩ := hp' _ _ _ _ ho
              rw [hE] at hE'
              simp at hE'
              rw [hy, hE'.1]
          exact fin b (m * sz) off cs f c _ hxe hc hp h
        · exact h.elim
      · exact h.elim
    · exact h.elim
  · exact h.elim

theorem xsound_nilCheck (dst : Option Nat) (x : Operand) (type : TypeId) (pos : String) (after : Array Edge) (guard : Option (Nat × Bool)) : XSound P G T ⟨dst, .nilCheck x, type, pos, after, guard⟩ := by
  intro Z0 w0 S n Z E st a w K next Q hI hd h hn
  have hx := look_rep hI x
  have fin : ∀ (b off : Nat) (rd : List Nat), a.eval x = .pointer (some ⟨b, off, none⟩) → K (look st x) rd [] → Oper.wpE P ⟨dst, .nilCheck x, type, pos, after, guard⟩ a w next Q := by
    intro b off rd he hk
    exact sound_value hI hd hn hk (x := a.eval x) (by simp [execOp, he]) hx
  simp only [wpX] at h
  split at h
  · rename_i s g off he
    have hx' := hx
    rw [he] at hx'
    split at h
    · rename_i g' cs ho
      replace h := bif_true h; obtain ⟨hgg, h⟩ := h
      have := Nat.eq_of_beq_eq_true hgg
      subst this
      obtain ⟨b, _, hxe, _⟩ := varx_cells hI ho hx'
      exact fin b off _ hxe h
    · exact h.elim
  · rename_i s g m off he
    have hx' := hx
    rw [he] at hx'
    split at h
    · rename_i g' el sz ds foc ho
      replace h := bif_true h; obtain ⟨hgg, h⟩ := h
      have := Nat.eq_of_beq_eq_true hgg
      subst this
      generalize hax : a.eval x = y at hx'
      cases hx' with
      | pe _ _ _ _ _ _ hp' =>
        obtain ⟨b', l', k', hE', hy⟩ := hp' _ _ _ _ ho
        exact fin _ _ _ (hax.trans hy) h
    · exact h.elim
  · exact h.elim

theorem xsound_fieldAddr (hT : TOk P T) (dst : Option Nat) (t : TypeId) (x : Operand) (k : Nat) (type : TypeId) (pos : String) (after : Array Edge) (guard : Option (Nat × Bool)) : XSound P G T ⟨dst, .fieldAddr t x k, type, pos, after, guard⟩ := by
  intro Z0 w0 S n Z E st a w K next Q hI hd h hn
  have hx := look_rep hI x
  simp only [wpX] at h
  split at h
  · rename_i fs _ _ _ _ _ hti
    have hi := hT _ _ hti
    split at h
    · rename_i f hf
      split at h
      · rename_i i hfi
        have hfi' := hT _ _ hfi
        cases hz : Nat.beq i.size 0 with
        | true => rw [hz] at h; exact h.elim
        | false =>
          rw [hz] at h
          simp only [cond_false] at h
          have hne : i.size ≠ 0 := fun e => by rw [e] at hz; exact Bool.noConfusion hz
          have run : ∀ b off, (Instr.fieldAt t (.pointer (some ⟨b, off, none⟩)) k).run P w = .ok (.pointer (some ⟨b, off + f.offset, none⟩)) w := by
            intro b off
            have hu := hi.u
            simp only at hu
            simp [Instr.fieldAt, run_underlying hu, hf, Instr.sureAddr, fieldPlace, hfi'.sizeOf w, hne, Addr.add_lit]
          split at h
          · rename_i s g off he
            have hx' := hx
            rw [he] at hx'
            split at h
            · rename_i g' cs ho
              replace h := bif_true h; obtain ⟨hgg, h⟩ := h
              have := Nat.eq_of_beq_eq_true hgg
              subst this
              obtain ⟨b, hE, hxe, _⟩ := varx_cells hI ho hx'
              refine sound_value hI hd hn h (x := .pointer (some ⟨b, off + f.offset, none⟩)) ?_ (.pm _ _ _ _ ⟨_, rfl⟩ ?_ fun _ => ⟨b, hE, rfl⟩)
              · simp only [execOp, hxe, Sem.run_bind, run]; rfl
              · cases hx' with | pm _ _ _ _ _ hg _ => exact hg
            · exact h.elim
          · rename_i s g m off he
            have hx' := hx
            rw [he] at hx'
            split at h
            · rename_i g' el sz ds foc ho
              replace h := bif_true h; obtain ⟨hgg, h⟩ := h
              have := Nat.eq_of_beq_eq_true hgg
              subst this
              generalize hax : a.eval x = y at hx'
              cases hx' with
              | pe _ _ _ _ _ hg hp' =>
                obtain ⟨b, l, k', hE, hy⟩ := hp' _ _ _ _ ho
                refine sound_value hI hd hn h (x := .pointer (some ⟨b, m * sz + off + f.offset, none⟩)) ?_ (.pe _ _ _ _ _ hg fun el' sz' ds' foc' ho' => ?_)
                · simp only [execOp, hax, hy, Sem.run_bind, run]; rfl
                · rw [ho] at ho'
                  simp only [Prod.mk.injEq, AObj.arr.injEq, true_and] at ho'
                  obtain ⟨_, rfl, _⟩ := ho'
                  exact ⟨b, l, k', hE, by rw [Nat.add_assoc]⟩
            · exact h.elim
          · exact h.elim
      · exact h.elim
    · exact h.elim
  · exact h.elim

theorem cellsSV_rep {obj : Objs} {s : SV} {x : Value} {ys : List CV} (h : RepS Z w obj E s x) (hy : cellsSV s = some ys) :
    x.cells.size = ys.length ∧ ∀ (j : Nat) (d : CV), ys[j]? = some d → d.atom = true ∧ ∃ y, x.cells[j]? = some y ∧ RepX Z w obj E d y := by
  have closed : ∀ c, asC s = some c → c.storable = true → x.cells.size = c.cells.length ∧ ∀ (j : Nat) (d : CV), c.cells[j]? = some d → d.atom = true ∧ ∃ y, x.cells[j]? = some y ∧ RepX Z w obj E d y := by
    intro c hc hs
    obtain ⟨h1, h2⟩ := cells_rep (asC_rep h hc) hs
    exact ⟨h1, fun j d hj => ⟨(h2 j d hj).1, by obtain ⟨_, y, hy, hr⟩ := h2 j d hj; exact ⟨y, hy, .cl hr⟩⟩⟩
  unfold cellsSV at hy
  split at hy
  · rename_i t g
    simp at hy
    subst hy
    cases h with
    | rs _ _ _ hs hg h =>
      obtain ⟨aa, l, k, rfl⟩ := hs
      refine ⟨by simp [Value.cells], fun j d hj => ?_⟩
      match j, hj with
      | 0, hj => simp at hj; subst hj; exact ⟨rfl, .slice aa l k, by simp [Value.cells], .one (.rs t g _ ⟨aa, l, k, rfl⟩ hg h)⟩
      | j + 1, hj => simp at hj
  · rename_i t g off
    simp at hy
    subst hy
    cases h with
    | pm _ _ _ _ hs hg h =>
      obtain ⟨p, rfl⟩ := hs
      refine ⟨by simp [Value.cells], fun j d hj => ?_⟩
      match j, hj with
      | 0, hj => simp at hj; subst hj; exact ⟨rfl, .pointer p, by simp [Value.cells], .one (.pr t g off _ ⟨p, rfl⟩ hg h)⟩
      | j + 1, hj => simp at hj
  · rename_i t g
    simp at hy
    subst hy
    cases h with
    | mr _ _ _ hs hg h =>
      obtain ⟨p, rfl⟩ := hs
      refine ⟨by simp [Value.cells], fun j d hj => ?_⟩
      match j, hj with
      | 0, hj => simp at hj; subst hj; exact ⟨rfl, .map p, by simp [Value.cells], .one (.mr t g _ ⟨p, rfl⟩ hg h)⟩
      | j + 1, hj => simp at hj
  · rename_i t g
    simp at hy
    subst hy
    cases h with
    | xr _ _ _ hs hg h =>
      have hcl : x.cells = #[x] := by cases x <;> first | rfl | (simp [Value.oneCell'] at hs)
      rw [hcl]
      refine ⟨rfl, fun j d hj => ?_⟩
      match j, hj with
      | 0, hj => simp at hj; subst hj; exact ⟨rfl, x, rfl, .one (.xr t g _ hs hg h)⟩
      | j + 1, hj => simp at hj
  · rename_i f caps
    cases hcs : caps1 caps with
    | none => rw [hcs] at hy; simp at hy
    | some cs =>
      rw [hcs] at hy
      simp at hy
      subst hy
      cases h with
      | fnr _ _ vs _ hl h =>
        obtain ⟨k1, k2⟩ := caps1_rep hcs hl h
        refine ⟨by simp [FV.val, Value.cells], fun j d hj => ?_⟩
        match j, hj with
        | 0, hj => simp at hj; subst hj; exact ⟨rfl, .func (.func f) #[] vs.toArray, by simp [FV.val, Value.cells], .fr f cs vs k1 k2⟩
        | j + 1, hj => simp at hj
  · rename_i cs
    simp at hy
    subst hy
    cases h with
    | agx _ vs hl hr ha =>
      refine ⟨by simp [Value.cells, hl], fun j d hj => ⟨ha j d hj, ?_⟩⟩
      have hlt : j < cs.length := (List.getElem?_eq_some_iff.1 hj).1
      have hv : vs[j]? = some (vs[j]'(by omega)) := List.getElem?_eq_getElem (by omega)
      exact ⟨_, by simp [Value.cells, hv], hr j d _ hj hv⟩
  · split at hy
    · rename_i c hc
      cases hs : c.storable with
      | false => rw [hs] at hy; simp at hy
      | true => rw [hs] at hy; simp at hy; subst hy; exact closed c hc hs
    · simp at hy

theorem RepX.oneC {obj : Objs} {c : CV} {x : Value} (h : RepX Z w obj E c x) (ha : c.atom = true) : x.oneCell' = true := by
  cases h with
  | one h =>
    cases h with
    | cl h => exact h.atom ha
    | rs t g x hs hg h => obtain ⟨aa, l, k, rfl⟩ := hs; rfl
    | pr t g off x hs hg h => obtain ⟨p, rfl⟩ := hs; rfl
    | mr t g x hs hg h => obtain ⟨p, rfl⟩ := hs; rfl
    | xr t g x hs hg h => exact hs
    | bp T f x hs => obtain ⟨p, rfl⟩ := hs; rfl
  | fr f caps vs hl h => rfl
theorem cells_one {obj : Objs} {ys : List CV} {x : Value} (hs : x.cells.size = ys.length) (hc : ∀ (j : Nat) (d : CV), ys[j]? = some d → d.atom = true ∧ ∃ y, x.cells[j]? = some y ∧ RepX Z w obj E d y) : ∀ v ∈ x.cells.toList, v.oneCell' = true := by
  intro v hv
  obtain ⟨j, hj, hjv⟩ := List.getElem_of_mem hv
  have hj' : j < ys.length := by rw [← hs]; simpa using hj
  obtain ⟨hat, u, hu, hr⟩ := hc j _ (List.getElem?_eq_getElem hj')
  have : u = v := by
    rw [Array.getElem?_eq_getElem (by simpa using hj)] at hu
    simp at hu hjv
    rw [← hu, ← hjv]
  subst this
  exact hr.oneC hat
/-- Reading behind a store of some cells in a row. -/
theorem row_get {cur : Array Value} {vs : List Value} {o : Nat} (hfit : o + vs.length ≤ cur.size) (j : Nat) :
    ((cur.toList.take (o + 0) ++ vs ++ cur.toList.drop (o + 0 + vs.length)).toArray)[j]? = if o ≤ j ∧ j < o + vs.length then vs[j - o]? else cur[j]? := by
  simp only [Nat.add_zero, List.getElem?_toArray, List.append_assoc]
  have hl1 : (cur.toList.take o).length = o := by simp; omega
  by_cases hjo : j < o
  · rw [List.getElem?_append_left (by omega), List.getElem?_take, if_pos hjo, if_neg (by omega)]; simp
  · rw [List.getElem?_append_right (by omega), hl1]
    by_cases hjk : j < o + vs.length
    · rw [List.getElem?_append_left (by omega), if_pos (by omega)]
    · rw [List.getElem?_append_right (by omega), if_neg (by omega), List.getElem?_drop]
      simp only [Array.getElem?_toList]
      congr 1
      omega
theorem row_size {cur : Array Value} {vs : List Value} {o : Nat} (hfit : o + vs.length ≤ cur.size) : (cur.toList.take (o + 0) ++ vs ++ cur.toList.drop (o + 0 + vs.length)).toArray.size = cur.size := by
  simp; omega
end
end Go.Abs

/-
  Soundness of the operations on slices of the call's own that are written: stores, indices, lengths.
-/
namespace Go.Abs
open Go Go.RowKit

section
variable {P : Program}
def BoundIs (o : Option Value) (n dflt : Nat) : Prop := (o = none ∧ n = dflt) ∨ ∃ k, o = some (.int k n)
theorem run_sliceBound (k : IntKind) {i y : Nat} (h : i ≤ y) (code : BoundsCode) (w : World) : (Instr.sliceBound (.int k i) y code).run P w = .ok i w := by
  have : ((0 : Int) ≤ (i : Int) ∧ (i : Int) ≤ (y : Int)) := by omega
  simp [Instr.sliceBound, asIntOf, h]
theorem run_sliceBounds (isS : Bool) {len cap l h : Nat} (hlc : len ≤ cap) (hlh : l ≤ h) (hh : h ≤ len) {lo hi : Option Value} (hlo : BoundIs lo l 0) (hhi : BoundIs hi h len) (w : World) :
    (Instr.sliceBounds isS len cap lo hi none).run P w = .ok (l, h, cap) w := by
  rcases hlo with ⟨rfl, rfl⟩ | ⟨k1, rfl⟩ <;> rcases hhi with ⟨rfl, rfl⟩ | ⟨k2, rfl⟩
  · simp [Instr.sliceBounds]
  · simp only [Instr.sliceBounds, Sem.run_bind, Sem.run_pure, Result.andThen_ok, run_sliceBound (P := P) k2 (Nat.le_trans hh hlc)]
  · simp only [Instr.sliceBounds, Sem.run_bind, Sem.run_pure, Result.andThen_ok, run_sliceBound (P := P) k1 hlh]
  · simp only [Instr.sliceBounds, Sem.run_bind, Sem.run_pure, Result.andThen_ok, run_sliceBound (P := P) k2 (Nat.le_trans hh hlc), run_sliceBound (P := P) k1 hlh]
end
theorem setCells_spec {ds ds' : List (List CV)} {foc foc' : Option (Nat × List CV)} {m : Nat} {cs' : List CV} (hf : FocOk ds foc) (hm : m < ds.length) (h : setCells ds foc m cs' ds' foc') :
    ds'.length = ds.length ∧ FocOk ds' foc' ∧ cellX ds' foc' m = some cs' ∧ ∀ i, i ≠ m → cellX ds' foc' i = cellX ds foc i := by
  unfold setCells at h
  split at h
  · rcases h with ⟨hn, rfl, rfl⟩ | ⟨rfl, rfl⟩
    · refine ⟨by simp, ⟨(fun _ _ h => nomatch h), fun i d hd _ => ?_⟩, by simp [cellX, hm], fun i hi => by simp [cellX, List.getElem?_set_ne (Ne.symm hi)]⟩
      by_cases hi : i = m
      · subst hi; rw [List.getElem?_set_self hm] at hd; injection hd with hd; subst hd; exact hn
      · rw [List.getElem?_set_ne (Ne.symm hi)] at hd; exact hf.2 i d hd (fun _ _ h => nomatch h)
    · refine ⟨rfl, ⟨(fun k d h => by cases h; exact hm), fun i d hd _ => hf.2 i d hd (fun _ _ h => nomatch h)⟩, by simp [cellX], fun i hi => by simp [cellX, hi]⟩
  · rename_i k d
    rcases h with ⟨rfl, rfl, rfl⟩ | ⟨hne, hn, rfl, rfl⟩
    · refine ⟨rfl, ⟨(fun k d h => by cases h; exact hm), fun i d' hd hi => hf.2 i d' hd (fun k' d'' h => by cases h; exact hi _ _ rfl)⟩, by simp [cellX], fun i hi => by simp [cellX, hi]⟩
    · refine ⟨by simp, ⟨(fun k' d' h => by cases h; simpa using hf.1 _ _ rfl), fun i d' hd hi => ?_⟩, by simp [cellX, hne, hm], fun i hi => by simp [cellX, List.getElem?_set_ne (Ne.symm hi)]⟩
      by_cases him : i = m
      · subst him; rw [List.getElem?_set_self hm] at hd; injection hd with hd; subst hd; exact hn
      · rw [List.getElem?_set_ne (Ne.symm him)] at hd
        exact hf.2 i d' hd hi

section
variable {P : Program} {G : World → Prop} {T : Tab} {Z0 : Base} {w0 : World} {S : Nat → Prop} {n : Nat} {Z Z' : Zone} {E : Nat → Value} {st : St} {a : Act} {w w' : World}

theorem Inv.vroot (hI : Inv G Z0 w0 S n Z E st a w) {s g : Nat} {cs : List CV} (h : st.obj s = (g, .var cs) ∨ st.obj s = (g, .varx cs)) :
    ∃ b el arr, E s = .pointer (some ⟨b, 0, none⟩) ∧ w.heap[b]? = some (.cells arr el (0, 0)) ∧ arr.size = cs.length ∧
      (∀ (j : Nat) (c : CV), cs[j]? = some c → c.atom = true ∧ ∃ x, arr[j]? = some x ∧ RepX Z w st.obj E c x) ∧ (∀ o, ¬ Z b o) ∧ (st.obj s).2.blk (E s) b ∧ BpOk (E s) el arr cs := by
  have ho := hI.obj s
  rcases h with h | h
  · rw [h] at ho
    obtain ⟨b, el, arr, he, hh, hs, hc, hz⟩ := ho
    exact ⟨b, el, arr, he, hh, hs, fun j c hj => ⟨(hc j c hj).1, by obtain ⟨_, x, hx, hr⟩ := hc j c hj; exact ⟨x, hx, .cl hr⟩⟩, hz, by rw [h, he] <;> rfl, .none fun j c hj => by obtain ⟨_, x, hx, hr⟩ := hc j c hj; exact hr.notBp⟩
  · rw [h] at ho
    obtain ⟨b, el, arr, he, hh, hs, hc, hz⟩ := ho
    exact ⟨b, el, arr, he, hh, hs, hc, hz.1, by rw [h, he] <;> rfl, he ▸ hz.2⟩

/-- A block of the call's own is written; its object is told anew. -/
theorem Inv.setBlk (hI : Inv G Z0 w0 S n Z E st a w) {d : Option Nat} (hd : inRange n d = true) {s b : Nat} {o' : AObj} {arr' : Array Value} (hblk : (st.obj s).2.blk (E s) b) (hblk' : ∀ b', o'.blk (E s) b' → b' = b) (hz : ∀ o, ¬ Z b o) (x : Value)
    (hsk : SameKind (st.obj s).2 o')
    (hok : Keeps Z w Z (w.setRow b arr') → ObjKeep st.obj E (upd st.obj [(s, ((st.obj s).1, o'))]) E → ObjOk Z (w.setRow b arr') (upd st.obj [(s, ((st.obj s).1, o'))]) E (E s) o') :
    Inv G Z0 w0 S n Z E ⟨put st.env d .any, upd st.obj [(s, ((st.obj s).1, o'))]⟩ (a.put d x) (w.setRow b arr') := by
  have hnS := hI.own s b hblk
  have hk : Keeps Z w Z (w.setRow b arr') := fun b' o hz' => ⟨hz', keep_heap (setRow_other w b b' arr' (fun e => by subst e; exact hz o hz'))⟩
  have hother : ∀ t, t ≠ s → upd st.obj [(s, ((st.obj s).1, o'))] t = st.obj t := fun t h => upd_one_ne _ _ h
  have hsame : upd st.obj [(s, ((st.obj s).1, o'))] s = ((st.obj s).1, o') := upd_one_same _ _ _
  refine hI.renew (· = s) hd ⟨rfl, rfl, rfl, by simp [World.setRow], fun k hk => setRow_other w b k arr' (fun e => hnS (e ▸ hk)), fun k hk => setRow_dfr w b k arr' hk⟩ hk (fun b o h => by have := hI.zlt b o h; simpa [World.setRow] using this) (fun _ _ h => .inl h) (fun t ht => ⟨hother t ht, rfl⟩) ?_ ?_ ?_ ?_ ?_ (.any _)
  · rintro t rfl; rw [hsame]; exact .inr ⟨rfl, .inr ⟨rfl, hsk⟩⟩
  · rintro hkeep t rfl
    rw [hsame]
    exact hok hk hkeep
  · intro t ht b' hb
    have hne : b' ≠ b := fun e => by subst e; exact hI.apart t s b' ht hb hblk
    refine ⟨setRow_other w b b' arr' hne, fun _ hz => hz, ?_⟩
    rintro s' rfl h
    rw [hsame] at h
    exact hne (hblk' _ h)
  · rintro t t' b rfl rfl h; exact absurd rfl h
  · rintro t rfl b' hb
    rw [hsame] at hb
    rw [hblk' _ hb]
    exact hnS

theorem xsound_store (hT : TOk P T) (dst : Option Nat) (t : TypeId) (x y : Operand) (type : TypeId) (pos : String) (after : Array Edge) (guard : Option (Nat × Bool)) : XSound P G T ⟨dst, .store t x y, type, pos, after, guard⟩ := by
  intro Z0 w0 S n Z E st a w K next Q hI hd h hn
  have hx := look_rep hI x
  have hy := look_rep hI y
  simp only [wpX] at h
  split at h
  · rename_i i ys hti hys
    have hi := hT _ _ hti
    replace h := bif_true h
    obtain ⟨hb, h⟩ := h
    simp only [Bool.and_eq_true] at hb
    have hyl : ys.length = i.size := Nat.eq_of_beq_eq_true hb.1.1
    have hyp : 1 ≤ i.size := Nat.le_of_ble_eq_true hb.1.2
    have hyb := fun {j : Nat} {c : CV} => noBp_get hb.2 (j := j) (c := c)
    obtain ⟨hsz, hyc⟩ := cellsSV_rep hy hys
    have hone := cells_one hsz hyc
    have hvl : (a.eval y).cells.toList.length = ys.length := by rw [Array.length_toList, hsz]
    -- the run
    have run : ∀ (b o : Nat) (cur : Array Value) (el : TypeId), a.eval x = .pointer (some ⟨b, o, none⟩) → w.heap[b]? = some (.cells cur el (0, 0)) → o + ys.length ≤ cur.size →
        (execOp a.eval ⟨dst, .store t x y, type, pos, after, guard⟩).run P w = .ok .skip (w.setRow b (cur.toList.take (o + 0) ++ (a.eval y).cells.toList ++ cur.toList.drop (o + 0 + (a.eval y).cells.toList.length)).toArray) := by
      intro b o cur el hxe hh hfit
      have hrun := run_storeCells_at (P := P) b o el (a.eval y).cells.toList 0 cur w hh (by rw [hvl]; simpa using hfit) hone
      simp only [execOp, hxe, Instr.storeAt, Instr.sureAddr, storeVar, Sem.run_bind, Sem.run_pure, Result.andThen_ok, hi.sizeOf w]
      rw [if_neg (by rw [hsz, hyl]; simp)]
      simp only [Sem.run_pure, Result.andThen_ok, hrun]
    split at h
    · rename_i s g off he
      rw [he] at hx
      have go : ∀ cs, (st.obj s = (g, .var cs) ∨ st.obj s = (g, .varx cs)) → (match setAt cs off ys with | some cs' => K .any [s] [(s, (g, .varx cs'))] | .none => False) → Oper.wpE P ⟨dst, .store t x y, type, pos, after, guard⟩ a w next Q := by
        intro cs ho h
        split at h
        · rename_i cs' hset
          obtain ⟨b, el, arr, hE, hh, hs, hc, hz, hblk, hbp⟩ := hI.vroot ho
          have hxe : a.eval x = .pointer (some ⟨b, off, none⟩) := by
            generalize a.eval x = y at hx
            cases hx with
            | pm _ _ _ _ _ hg hl =>
              obtain ⟨b', hE', hy'⟩ := hl ⟨cs, ho.imp id .inr⟩
              rw [hE] at hE'
              simp at hE'
              rw [hy', hE']
          obtain ⟨h1, h2, h3⟩ := setAt_spec _ _ _ _ hset
          have hfit : off + ys.length ≤ arr.size := by
            rcases h2 with h2 | h2
            · rw [h2] at hyl; simp at hyl; omega
            · rw [hs]; exact h2
          have hg : (st.obj s).1 = g := by rcases ho with ho | ho <;> rw [ho]
          refine wp_skip' (run b off arr el hxe hh hfit) (hn _ _ _ Z E undef _ h ?_)
          have := hI.setBlk (o' := .varx cs') (arr' := (arr.toList.take (off + 0) ++ (a.eval y).cells.toList ++ arr.toList.drop (off + 0 + (a.eval y).cells.toList.length)).toArray) hd hblk (fun b' h => by rw [hE] at h; exact h.symm) hz undef (by rcases ho with ho | ho <;> (rw [ho]; trivial)) ?_
          · rw [hg] at this; exact this
          · intro hk hkeep
            have hrs := row_size (cur := arr) (vs := (a.eval y).cells.toList) (o := off) (by rw [hvl]; exact hfit)
            have hrg := fun j => row_get (cur := arr) (vs := (a.eval y).cells.toList) (o := off) (by rw [hvl]; exact hfit) j
            generalize hcur' : (arr.toList.take (off + 0) ++ (a.eval y).cells.toList ++ arr.toList.drop (off + 0 + (a.eval y).cells.toList.length)).toArray = cur' at hrs hrg hk hkeep ⊢
            simp only [hvl] at hrg
            refine ⟨b, el, _, hE, setRow_heap w b arr _ el (0, 0) hh, by rw [hrs, hs, h1], fun j c hj => ?_, hz, fun j T f hj => ?_⟩
            rotate_left
            · rw [h3 j] at hj
              rw [hrg]
              by_cases hin : off ≤ j ∧ j < off + ys.length
              · rw [if_pos hin] at hj
                have := hyb hj
                simp [CV.isBp] at this
              · rw [if_neg hin] at hj ⊢
                exact hbp j T f hj
            rw [h3 j] at hj
            rw [hrg]
            by_cases hin : off ≤ j ∧ j < off + ys.length
            · rw [if_pos hin] at hj ⊢
              obtain ⟨h4, v, h5, h6⟩ := hyc _ c hj
              exact ⟨h4, v, by simpa using h5, h6.keep hk hkeep⟩
            · rw [if_neg hin] at hj ⊢
              obtain ⟨h4, v, h5, h6⟩ := hc j c hj
              exact ⟨h4, v, h5, h6.keep hk hkeep⟩
        · exact h.elim
      split at h
      · rename_i g' cs ho
        replace h := bif_true h; obtain ⟨hgg, h⟩ := h
        simp only [Bool.and_eq_true] at hgg
        have := Nat.eq_of_beq_eq_true hgg.1
        subst this
        exact go cs (.inl ho) h
      · rename_i g' cs ho
        replace h := bif_true h; obtain ⟨hgg, h⟩ := h
        have := Nat.eq_of_beq_eq_true hgg
        subst this
        exact go cs (.inr ho) h
      · exact h.elim
    · rename_i s g m off he
      rw [he] at hx
      split at h
      · rename_i g' el sz ds foc ho
        replace h := bif_true h; obtain ⟨hgg, h⟩ := h
        have := Nat.eq_of_beq_eq_true hgg
        subst this
        obtain ⟨cs, hcs, h⟩ := h
        split at h
        · rename_i cs' hset
          obtain ⟨ds', foc', hsc, h⟩ := h
          have hobj := hI.obj s
          rw [ho] at hobj
          obtain ⟨xs, hszp, hown, hfoc, hdl, hcl, hz⟩ := hobj
          obtain ⟨hm, hcx⟩ := cellsAt_spec hfoc hcs
          obtain ⟨hlen', hfoc', hcm, hco⟩ := setCells_spec hfoc hm hsc
          obtain ⟨h1, h2, h3⟩ := setAt_spec _ _ _ _ hset
          have hcsl := hdl m cs hm hcx
          rcases hown.2 with ⟨_, h0⟩ | ⟨b, cap, cur, hE, hbase, hh, hnc, hcmx, hcs2, htake⟩
          · omega
          have hxe : a.eval x = .pointer (some ⟨b, m * sz + off, none⟩) := by
            generalize a.eval x = y at hx
            cases hx with
            | pe _ _ _ _ _ _ hp' =>
              obtain ⟨b', l', k', hE', hy'⟩ := hp' _ _ _ _ ho
              rw [hE] at hE'
              simp at hE'
              rw [hy', hE'.1]
          have hoff : off + ys.length ≤ sz := by
            rcases h2 with h2 | h2
            · rw [h2] at hyl; simp at hyl; omega
            · rw [← hcsl]; exact h2
          have hmul : ds.length * sz ≤ cap * sz := Nat.mul_le_mul_right _ hnc
          have hmsz : m * sz + sz ≤ ds.length * sz := by
            have : (m + 1) * sz ≤ ds.length * sz := Nat.mul_le_mul_right _ hm
            rw [Nat.add_mul, Nat.one_mul] at this
            exact this
          have hfit : m * sz + off + ys.length ≤ cur.size := by rw [hcs2]; omega
          have hg : (st.obj s).1 = g := by rw [ho]
          have hz' : ∀ o, ¬ Z b o := fun o => hz b o (by rw [hE]; rfl)
          refine wp_skip' (run b (m * sz + off) cur el hxe hh hfit) (hn _ _ _ Z E undef _ h ?_)
          have := hI.setBlk (o' := .arr el sz ds' foc') (arr' := (cur.toList.take (m * sz + off + 0) ++ (a.eval y).cells.toList ++ cur.toList.drop (m * sz + off + 0 + (a.eval y).cells.toList.length)).toArray) hd (by rw [ho, hE]) (fun b' h => by rw [hE] at h; exact h.symm) hz' undef (by rw [ho]; exact ⟨rfl, rfl⟩) ?_
          · rw [hg] at this; exact this
          · intro hk hkeep
            have hrs := row_size (cur := cur) (vs := (a.eval y).cells.toList) (o := m * sz + off) (by rw [hvl]; exact hfit)
            have hrg := fun j => row_get (cur := cur) (vs := (a.eval y).cells.toList) (o := m * sz + off) (by rw [hvl]; exact hfit) j
            generalize hcur' : (cur.toList.take (m * sz + off + 0) ++ (a.eval y).cells.toList ++ cur.toList.drop (m * sz + off + 0 + (a.eval y).cells.toList.length)).toArray = cur' at hrs hrg hk hkeep ⊢
            simp only [hvl] at hrg
            have h9 : cur'.toList.length = cap * sz := by rw [Array.length_toList, hrs, hcs2]
            refine ⟨cur'.toList.take (ds.length * sz), hszp, ⟨(by rw [hlen', List.length_take, h9]; omega), .inr ⟨b, cap, cur', by rw [hlen', hE], hbase, setRow_heap w b cur cur' el (0, 0) hh, by rw [hlen']; exact hnc, hcmx, by rw [hrs, hcs2], by rw [hlen']⟩⟩, hfoc', ?_, ?_, fun b' o hb' => by rw [hE] at hb'; simp [Value.ownBlock] at hb'; subst hb'; exact hz' o⟩
            · intro k d hkl hkc
              rw [hlen'] at hkl
              by_cases hkm : k = m
              · subst hkm; rw [hcm] at hkc; injection hkc with hkc; subst hkc; rw [h1]; exact hcsl
              · rw [hco k hkm] at hkc; exact hdl k d hkl hkc
            · intro k d hkl hkc j c hj
              rw [hlen'] at hkl
              have hjsz : j < sz := by
                have hdsz : d.length = sz := by
                  by_cases hkm : k = m
                  · subst hkm; rw [hcm] at hkc; injection hkc with hkc; subst hkc; rw [h1]; exact hcsl
                  · rw [hco k hkm] at hkc; exact hdl k d hkl hkc
                rw [← hdsz]; exact (List.getElem?_eq_some_iff.1 hj).1
              have hidx := idx_lt hkl hjsz
              have hget : (cur'.toList.take (ds.length * sz))[k * sz + j]? = cur'[k * sz + j]? := by rw [List.getElem?_take, if_pos hidx]; simp
              have hold : ∀ u, xs[k * sz + j]? = some u → cur[k * sz + j]? = some u := fun u hu => by
                rw [← htake, List.getElem?_take, if_pos hidx] at hu
                simpa using hu
              rw [hget, hrg]
              by_cases hkm : k = m
              · subst hkm
                rw [hcm] at hkc
                injection hkc with hkc
                subst hkc
                rw [h3 j] at hj
                by_cases hin : off ≤ j ∧ j < off + ys.length
                · rw [if_pos hin] at hj
                  rw [if_pos (by omega)]
                  obtain ⟨h4, v, h5, h6⟩ := hyc _ c hj
                  refine ⟨h4, v, ?_, h6.keep hk hkeep⟩
                  rw [show k * sz + j - (k * sz + off) = j - off from by omega]
                  simpa using h5
                · rw [if_neg hin] at hj
                  rw [if_neg (by omega)]
                  obtain ⟨h4, v, h5, h6⟩ := hcl k cs hkl hcx j c hj
                  exact ⟨h4, v, hold v h5, h6.keep hk hkeep⟩
              · rw [hco k hkm] at hkc
                obtain ⟨h4, v, h5, h6⟩ := hcl k d hkl hkc j c hj
                have hnot : ¬ (m * sz + off ≤ k * sz + j ∧ k * sz + j < m * sz + off + ys.length) := by
                  rcases Nat.lt_or_gt_of_ne hkm with hlt | hgt
                  · have : (k + 1) * sz ≤ m * sz := Nat.mul_le_mul_right _ hlt
                    rw [Nat.add_mul, Nat.one_mul] at this
                    omega
                  · have : (m + 1) * sz ≤ k * sz := Nat.mul_le_mul_right _ hgt
                    rw [Nat.add_mul, Nat.one_mul] at this
                    omega
                rw [if_neg hnot]
                exact ⟨h4, v, hold v h5, h6.keep hk hkeep⟩
        · exact h.elim
      · exact h.elim
    · exact h.elim
  · exact h.elim

theorem xsound_indexAddr (hT : TOk P T) (dst : Option Nat) (t : TypeId) (x i : Operand) (type : TypeId) (pos : String) (after : Array Edge) (guard : Option (Nat × Bool)) : XSound P G T ⟨dst, .indexAddr t x i, type, pos, after, guard⟩ := by
  intro Z0 w0 S n Z E st a w K next Q hI hd h hn
  have hx := look_rep hI x
  have hix := look_rep hI i
  simp only [wpX] at h
  split at h
  · rename_i e _ _ _ _ _ hti
    have hi := hT _ _ hti
    have hu := hi.u
    simp only at hu
    split at h
    · rename_i ti s g kd m hte hlx hli
      have hie := hT _ _ hte
      rw [hlx] at hx
      rw [hli] at hix
      have hiv : a.eval i = .int kd m := rep_cv hix
      split at h
      · rename_i g' el sz ds foc ho
        replace h := bif_true h; obtain ⟨hgg, h⟩ := h
        simp only [Bool.and_eq_true] at hgg
        have := Nat.eq_of_beq_eq_true hgg.1
        subst this
        have hsz := Nat.eq_of_beq_eq_true hgg.2
        obtain ⟨h0, hlt, h⟩ := h
        have hobj := hI.obj s
        rw [ho] at hobj
        obtain ⟨xs, hszp, hown, _⟩ := hobj
        obtain ⟨b, cap, hE, _, _⟩ := own_form hown (by omega)
        generalize hax : a.eval x = y at hx
        cases hx with
        | rs _ _ _ hs hg hp' =>
          have hye : y = .slice (some ⟨b, 0, none⟩) ds.length cap := (hp' _ _ _ _ ho).symm.trans hE
          refine sound_value hI hd hn h (x := .pointer (some ⟨b, m.toNat * sz, none⟩)) ?_ (.pe _ _ _ _ _ hg fun el' sz' ds' foc' ho' => ?_)
          · have hmi : (0 ≤ m ∧ m < (ds.length : Int)) := ⟨h0, by omega⟩
            simp only [execOp, hax, hye, hiv, Instr.indexAt, asIntOf, Sem.run_bind, Sem.run_pure, Result.andThen_ok, run_underlying hu, hie.sizeOf w, if_pos hmi, Addr.add_lit, hsz, Nat.zero_add]
          · rw [ho] at ho'
            simp only [Prod.mk.injEq, AObj.arr.injEq, true_and] at ho'
            obtain ⟨_, rfl, _⟩ := ho'
            exact ⟨b, _, cap, hE, rfl⟩
      · exact h.elim
    · exact h.elim
  · exact h.elim
theorem xsound_slice (hT : TOk P T) (dst : Option Nat) (t : TypeId) (x : Operand) (lo hi mx : Option Operand) (type : TypeId) (pos : String) (after : Array Edge) (guard : Option (Nat × Bool)) : XSound P G T ⟨dst, .slice t x lo hi mx, type, pos, after, guard⟩ := by
  intro Z0 w0 S n Z E st a w K next Q hI hd h hn
  have hx := look_rep hI x
  simp only [wpX] at h
  split at h
  · rename_i e _ _ _ _ b hti
    have hi := hT _ _ hti
    have hu := hi.u
    simp only at hu
    split at h
    · rename_i i s g kd m hte hlx hli
      have hie := hT _ _ hte
      have hix := look_rep hI b
      rw [hlx] at hx
      rw [hli] at hix
      have hiv : a.eval b = .int kd m := rep_cv hix
      split at h
      · rename_i g' el sz ds foc ho
        replace h := bif_true h; obtain ⟨hgg, h⟩ := h
        simp only [Bool.and_eq_true] at hgg
        have := Nat.eq_of_beq_eq_true hgg.1
        subst this
        have hsz := Nat.eq_of_beq_eq_true hgg.2
        obtain ⟨h0, hle, hne, h⟩ := h
        obtain ⟨p, rfl⟩ : ∃ p : Nat, m = p := ⟨m.toNat, by omega⟩
        have hpl : p ≤ ds.length := by omega
        have hobj := hI.obj s
        rw [ho] at hobj
        obtain ⟨xs, hszp, hown, _⟩ := hobj
        obtain ⟨hxl, hown⟩ := hown
        rcases hown with ⟨_, hn0⟩ | ⟨bk, cap, cur, hE, _, hh, hcap, hmax, hcs, htake⟩
        · exact absurd (List.eq_nil_of_length_eq_zero hn0) hne
        · generalize hax : a.eval x = y at hx
          cases hx with
          | rs _ _ _ hs hg hp' =>
            have hye : y = .slice (some ⟨bk, 0, none⟩) ds.length cap := (hp' _ _ _ _ ho).symm.trans hE
            have hrun : (Instr.sliceAt t y (some (Value.int kd (p : Int))) none none).run P w = .ok (.slice (if cap = p then some ⟨bk, 0, none⟩ else (some (⟨bk, 0, none⟩ : Addr)).map (·.add (p * i.size))) (ds.length - p) (cap - p)) w := by
              rw [hye]
              simp only [Instr.sliceAt, Sem.run_bind, run_underlying hu, Result.andThen_ok, Instr.slice, run_sliceBounds (P := P) true (len := ds.length) (cap := cap) (l := p) (h := ds.length) hcap hpl (Nat.le_refl _) (lo := some (.int kd (p : Int))) (hi := none) (.inr ⟨kd, rfl⟩) (.inl ⟨rfl, rfl⟩), hie.sizeOf w, Sem.run_pure]
            refine sound_value hI hd hn h (x := .slice (if cap = p then some ⟨bk, 0, none⟩ else (some (⟨bk, 0, none⟩ : Addr)).map (·.add (p * i.size))) (ds.length - p) (cap - p)) ?_ (.ss _ _ _ _ hg fun el' sz' ds' foc' ho' => ?_)
            · simp only [execOp, hax, Option.map_some, Option.map_none, hiv, Sem.run_bind, hrun, Result.andThen_ok, Sem.run_pure]
            · rw [ho] at ho'
              simp only [Prod.mk.injEq, AObj.arr.injEq, true_and] at ho'
              obtain ⟨_, rfl, _⟩ := ho'
              by_cases hcp : cap = p
              · refine ⟨bk, _, cap, 0, hE, ?_, fun h => ?_, Nat.zero_le _, ?_⟩
                · rw [if_pos hcp]; simp
                · simp at h; omega
                · simpa using hpl
              · refine ⟨bk, _, cap, p * i.size, hE, ?_, fun _ => by simp [hsz], by rw [hsz]; exact Nat.mul_le_mul_right _ (by omega), by simpa using hpl⟩
                rw [if_neg hcp]
                have : (⟨bk, 0, none⟩ : Addr).add (p * i.size) = ⟨bk, p * i.size, none⟩ := by
                  unfold Addr.add; split <;> simp_all
                simp [this]
      · exact h.elim
    · exact h.elim
  · exact h.elim
end
end Go.Abs

/-
  Soundness of the operations on slices of the call's own that are written: lengths, literals, append.
-/
namespace Go.Abs
open Go Go.RowKit

section
variable {P : Program} {G : World → Prop} {T : Tab} {Z0 : Base} {w0 : World} {S : Nat → Prop} {n : Nat} {Z Z' : Zone} {E : Nat → Value} {st : St} {a : Act} {w w' : World}

theorem grown_refl (w : World) (r : Option Nat) : w.grownBy w r := ⟨rfl, rfl, rfl, Nat.le_refl _, fun _ _ _ => rfl⟩

/-- A slice that is written is laid into slot d. -/
theorem Inv.arrAt (hI : Inv G Z0 w0 S n Z E st a w) {d : Nat} (hd : inRange n (some d) = true) {x : Value} {el sz : Nat} {ds : List (List CV)} {foc : Option (Nat × List CV)} {obj' : Objs} {g : Nat} (hg : g = (st.obj d).1 + 1)
    (hod : obj' d = (g, .arr el sz ds foc)) (hoo : ∀ t, t ≠ d → obj' t = st.obj t ∨ obj' t = ((st.obj t).1, .spent))
    (hb : Kept S w w') (hk : Keeps Z w Z' w') (hlt : ∀ b o, Z' b o → b < w'.heap.size) (hnew : ∀ b o, Z' b o → Z b o ∨ ¬ S b) (hs : ∃ aa l k, x = .slice aa l k)
    (hown : ObjKeep st.obj E obj' (setE E d x) → ObjOk Z' w' obj' (setE E d x) x (.arr el sz ds foc)) (hnS : ∀ b, x.ownBlock = some b → ¬ S b)
    (hothers : ∀ t, t ≠ d → obj' t = st.obj t → ∀ b, (st.obj t).2.blk (E t) b → w'.heap[b]? = w.heap[b]? ∧ (∀ k, Z' b k → Z b k) ∧ x.ownBlock ≠ some b) :
    Inv G Z0 w0 S n Z' (setE E d x) ⟨put st.env (some d) (.rs d g), obj'⟩ (a.put (some d) x) w' := by
  subst hg
  refine hI.renew (fun t => t = d ∨ obj' t ≠ st.obj t) hd hb hk hlt hnew ?_ ?_ ?_ ?_ ?_ ?_ ?_
  · intro t ht
    have h1 : t ≠ d := fun e => ht (.inl e)
    exact ⟨Classical.byContradiction fun e => ht (.inr e), setE_ne E _ h1⟩
  · intro t ht
    by_cases h : t = d
    · subst h; rw [hod]; exact .inl (Nat.lt_succ_self _)
    · rcases hoo t h with h1 | h1
      · rcases ht with ht | ht
        · exact absurd ht h
        · exact absurd h1 ht
      · rw [h1]; exact .inr ⟨rfl, .inl (.inl rfl)⟩
  · intro hkeep t ht
    by_cases h : t = d
    · subst h; rw [hod, setE_same]; exact hown hkeep
    · rcases hoo t h with h1 | h1
      · rcases ht with ht | ht
        · exact absurd ht h
        · exact absurd h1 ht
      · rw [h1]; trivial
  · intro t ht b hb
    have h1 : t ≠ d := fun e => ht (.inl e)
    have h2 : obj' t = st.obj t := Classical.byContradiction fun e => ht (.inr e)
    obtain ⟨g1, g2, g3⟩ := hothers t h1 h2 b hb
    refine ⟨g1, g2, fun s hs => ?_⟩
    by_cases h : s = d
    · subst h; rw [hod, setE_same, arr_blk]; exact g3
    · rcases hoo s h with h3 | h3
      · rcases hs with hs | hs
        · exact absurd hs h
        · exact absurd h3 hs
      · rw [h3]; simp [AObj.blk]
  · intro t t' b ht ht' hne h1 h2
    by_cases h : t = d
    · have h' : t' ≠ d := fun e => hne (h.trans e.symm)
      rcases hoo t' h' with h3 | h3
      · rcases ht' with ht' | ht'
        · exact absurd ht' h'
        · exact absurd h3 ht'
      · rw [h3] at h2; simp [AObj.blk] at h2
    · rcases hoo t h with h3 | h3
      · rcases ht with ht | ht
        · exact absurd ht h
        · exact absurd h3 ht
      · rw [h3] at h1; simp [AObj.blk] at h1
  · intro t ht b hb'
    by_cases h : t = d
    · subst h; rw [hod, setE_same, arr_blk] at hb'; exact hnS b hb'
    · rcases hoo t h with h1 | h1
      · rcases ht with ht | ht
        · exact absurd ht h
        · exact absurd h1 ht
      · rw [h1] at hb'; simp [AObj.blk] at hb'
  · refine .rs _ _ _ hs ?_ fun _ _ _ _ _ => setE_same _ _ _
    rw [hod]
    exact Nat.le_refl _

/-- The run of an append onto a row of the call's own. -/
theorem app_core {base : Nat} {t ty e : TypeId} {i : TypeInfo} {z : Value} {size : Nat} (ht : P.underlying t = some (.slice e)) (hi : P.info? e = some i) (hz : i.zero = some z)
    (hsize : i.size = size) (hzs : z.cells.size = size) (hsz : 0 < size) {v : Value} {m0 : Nat} {xs : List Value} (hown : w.ownsRow base e size v m0 xs) (hsl : ∃ aa l k, v = .slice aa l k)
    {yv : Value} {m : Nat} {news : List Value} (hl : news.length = m * size) (h1 : ∀ u ∈ news, u.oneCell' = true)
    (hy : (m = 0 ∧ ∃ ya yc, yv = .slice ya 0 yc) ∨ ∃ b c, yv = .slice (some b) m c ∧ 0 < m ∧ ∀ j u, news[j]? = some u → w.cell? (b.add j) = some u)
    (h63 : m0 + m ≤ 9223372036854775807) (hbytes : (m0 + m) * i.bytes ≤ 140737488355328) (hbase : base ≤ w.heap.size) :
    ∃ v' w', (Builtin.append_ #[t, t] ty #[v, yv]).run P w = .ok v' w' ∧ w'.ownsRow base e size v' (m0 + m) (xs ++ news) ∧ w.grownBy w' v.ownBlock ∧
      (v'.ownBlock = v.ownBlock ∨ v'.ownBlock = some w.heap.size) ∧ ∃ aa l k, v' = .slice aa l k := by
  rcases hy with ⟨hm, ya, yc, rfl⟩ | ⟨b, c, rfl, hm, hnews⟩
  · subst hm
    have hnil : news = [] := List.eq_nil_of_length_eq_zero (by simpa using hl)
    subst hnil
    exact ⟨v, w, append_none ht hi hown ya yc, by simpa using hown, grown_refl _ _, .inl rfl, hsl⟩
  · obtain ⟨v', w', hr, ho, hg, _, hb⟩ := append_run (P := P) (ty := ty) (c := c) ht hi hz hsize hzs hsz hown hm hl hnews h1 h63 hbytes hbase
    refine ⟨v', w', hr, ho, hg, hb, ?_⟩
    rcases ho.2 with ⟨he, _⟩ | ⟨g, cap, cur, he, _⟩
    · exact ⟨_, _, _, he⟩
    · exact ⟨_, _, _, he⟩

/-- The cells of a closed slice, one behind the other. -/
theorem closed_news {s2 sz : Nat} {ns : List (List CV)} {yv : Value} (hsz : 0 < sz) (hns : ∀ m ∈ ns, m.length = sz) (h : Rep Z w (.sl s2 ns) yv) :
    ∃ news : List Value, news.length = ns.length * sz ∧ (∀ u ∈ news, u.oneCell' = true) ∧ ((ns.length = 0 ∧ ∃ ya yc, yv = .slice ya 0 yc) ∨ ∃ b c, yv = .slice (some b) ns.length c ∧ 0 < ns.length ∧ ∀ j u, news[j]? = some u → w.cell? (b.add j) = some u) ∧
      ∀ (i j : Nat) (d : List CV) (c : CV), ns[i]? = some d → d[j]? = some c → c.atom = true ∧ ∃ u, news[i * sz + j]? = some u ∧ Rep Z w c u := by
  cases h with
  | nil _ ya yc => exact ⟨[], by simp, by simp, .inl ⟨rfl, ya, yc, rfl⟩, fun i j d c h => by simp at h⟩
  | sl _ _ b o cap f hcap hs2 hc hr =>
    by_cases hnil : ns = []
    · subst hnil
      exact ⟨[], by simp, by simp, .inl ⟨rfl, _, _, rfl⟩, fun i j d c h => by simp at h⟩
    · have hpos : 0 < ns.length := List.length_pos_iff.2 hnil
      have hs2z : s2 = sz := by
        have hfirst : ns[0]? = some (ns[0]'hpos) := List.getElem?_eq_getElem hpos
        rw [← hs2 0 _ hfirst]
        exact hns _ (List.getElem_mem hpos)
      subst hs2z
      let news := (List.range (ns.length * s2)).map fun k => f (k / s2) (k % s2)
      have hnl : news.length = ns.length * s2 := by simp [news]
      have hnget : ∀ k, k < ns.length * s2 → news[k]? = some (f (k / s2) (k % s2)) := fun k hk => by simp [news, List.getElem?_map, List.getElem?_range hk]
      refine ⟨news, hnl, ?_, .inr ⟨⟨b, o, none⟩, cap, rfl, hpos, ?_⟩, ?_⟩
      · intro u hu
        obtain ⟨k, hk, hku⟩ := List.getElem_of_mem hu
        have hlt : k < ns.length * s2 := by rw [← hnl]; exact hk
        obtain ⟨dd, c, h1, h2⟩ := flat_get hs2 hsz hlt
        have hu' : u = f (k / s2) (k % s2) := by
          have h3 := hnget k hlt
          rw [List.getElem?_eq_getElem hk] at h3
          injection h3 with h3
          rw [← hku, h3]
        rw [hu']
        exact (hr _ _ dd c h1 h2).atom (hc _ _ dd c h1 h2).2.2
      · intro k u hk
        have hlt : k < ns.length * s2 := by rw [← hnl]; exact (List.getElem?_eq_some_iff.1 hk).1
        obtain ⟨dd, c, h1, h2⟩ := flat_get hs2 hsz hlt
        obtain ⟨_, hcell, _⟩ := hc _ _ dd c h1 h2
        rw [hnget k hlt] at hk
        injection hk with hk
        rw [Addr.add_lit, ← hk]
        rw [Nat.add_assoc, div_mul_add] at hcell
        exact hcell
      · intro i j d c h1 h2
        have hi : i < ns.length := (List.getElem?_eq_some_iff.1 h1).1
        have hj : j < s2 := by rw [← hs2 i d h1]; exact (List.getElem?_eq_some_iff.1 h2).1
        refine ⟨(hc i j d c h1 h2).2.2, f i j, ?_, hr i j d c h1 h2⟩
        rw [hnget _ (idx_lt hi hj)]
        have e1 : (i * s2 + j) / s2 = i := by rw [Nat.mul_comm, Nat.mul_add_div hsz, Nat.div_eq_of_lt hj, Nat.add_zero]
        have e2 : (i * s2 + j) % s2 = j := by rw [Nat.mul_comm, Nat.mul_add_mod, Nat.mod_eq_of_lt hj]
        rw [e1, e2]

theorem xsound_len (hT : TOk P T) (dst : Option Nat) (args : Array Operand) (argTypes : Array TypeId) (type : TypeId) (pos : String) (after : Array Edge) (guard : Option (Nat × Bool)) : XSound P G T ⟨dst, .call ⟨.builtin .len, args, argTypes⟩, type, pos, after, guard⟩ := by
  intro Z0 w0 S n Z E st a w K next Q hI hd h hn
  obtain ⟨args⟩ := args
  cases args with
  | nil => simp only [wpX] at h
  | cons x rest =>
  cases rest with
  | cons y r => simp only [wpX] at h
  | nil =>
  have hx := look_rep hI x
  simp only [wpX] at h
  split at h
  · rename_i x0 _ x' e _ _ _ _ _ hx0 hbt
    have hxx : x = x' := by injection hx0
    subst hxx
    split at h
    · rename_i s g he
      rw [he] at hx
      split at h
      · rename_i g' el sz ds foc ho
        replace h := bif_true h; obtain ⟨hgg, h⟩ := h
        have := Nat.eq_of_beq_eq_true hgg
        subst this
        have hobj := hI.obj s
        rw [ho] at hobj
        obtain ⟨xs, hszp, hown, _⟩ := hobj
        have hxe : ∃ aa cap, a.eval x = .slice aa ds.length cap := by
          generalize a.eval x = y at hx
          cases hx with
          | rs _ _ _ hs hg hp' =>
            rw [hp' _ _ _ _ ho] at hown
            rcases hown.2 with ⟨hy, h0⟩ | ⟨b, cap, cur, hy, _⟩
            · exact ⟨_, _, by rw [hy, h0]⟩
            · exact ⟨_, _, hy⟩
        obtain ⟨aa, cap, hxe⟩ := hxe
        cases hat : argTypes[0]? with
        | none => rw [hat] at hbt; cases hbt
        | some t0 =>
          rw [hat] at hbt
          have hu := (hT _ _ hbt).u
          simp only at hu
          refine sound_value hI hd hn h ?_ (.c _ _ (.v _))
          rw [exec_builtin]
          simp only [builtin, Sem.run_bind, List.map_toArray, List.map_cons, List.map_nil]
          simp [Builtin.len_, hat, run_underlying hu, hxe, goInt]
      · exact h.elim
    · exact h.elim
  · exact h.elim

/-- An append that ends in a slice which is written. -/
theorem append_fin (hT : TOk P T) (hI : Inv G Z0 w0 S n Z E st a w) {d : Nat} {x y : Operand} {t1 e : TypeId} {type : TypeId} {pos : String} {after : Array Edge} {guard : Option (Nat × Bool)} {K : KOp} {next : Act → World → Prop} {Q : Exit → Act → World → Prop} (hd : inRange n (some d) = true)
    {ti i : TI} (ht1 : T.get t1 = some ti) (hde : ti.desc = .slice e) (hte : T.get e = some i) (h1 : 1 ≤ i.size) (hby : i.bytes ≤ 4096)
    {v : Value} {m0 : Nat} {xs : List Value} (hev : a.eval x = v) (hown : w.ownsRow 0 e i.size v m0 xs) (hsl : ∃ aa l k, v = .slice aa l k)
    (hvz : ∀ b o, v.ownBlock = some b → ¬ Z b o) (hvS : ∀ b, v.ownBlock = some b → ¬ S b)
    {m : Nat} {news : List Value} (hl : news.length = m * i.size) (hone : ∀ u ∈ news, u.oneCell' = true)
    (hy : (m = 0 ∧ ∃ ya yc, a.eval y = .slice ya 0 yc) ∨ ∃ b c, a.eval y = .slice (some b) m c ∧ 0 < m ∧ ∀ j u, news[j]? = some u → w.cell? (b.add j) = some u)
    (hlen : roomOk (m0 + m) i.bytes) {ds : List (List CV)} {foc : Option (Nat × List CV)} {obj' : Objs} {g : Nat} {rd : List Nat} {u : Upd} (hg : g = (st.obj d).1 + 1)
    (hk : K (.rs d g) rd u) (hu' : obj' = upd st.obj u)
    (hn : ∀ r rd u Z' E' x w', K r rd u → Inv G Z0 w0 S n Z' E' ⟨put st.env (some d) r, upd st.obj u⟩ (a.put (some d) x) w' → next (a.put (some d) x) w')
    (hod : obj' d = (g, .arr e i.size ds foc)) (hoo : ∀ t, t ≠ d → obj' t = st.obj t ∨ obj' t = ((st.obj t).1, .spent))
    (hdl : ds.length = m0 + m) (hfoc : FocOk ds foc)
    (hlens : ∀ (i' : Nat) (d' : List CV), i' < ds.length → cellX ds foc i' = some d' → d'.length = i.size)
    (hcells : ∀ (i' : Nat) (d' : List CV), i' < ds.length → cellX ds foc i' = some d' → ∀ (j : Nat) (c : CV), d'[j]? = some c → c.atom = true ∧ ∃ u, (xs ++ news)[i' * i.size + j]? = some u ∧ RepX Z w st.obj E c u)
    (hothers : ∀ t, t ≠ d → obj' t = st.obj t → ∀ b, (st.obj t).2.blk (E t) b → v.ownBlock ≠ some b) :
    Oper.wpE P ⟨some d, .call ⟨.builtin .append, ⟨[x, y]⟩, ⟨[t1, t1]⟩⟩, type, pos, after, guard⟩ a w next Q := by
  have hu1 := (hT _ _ ht1).u
  rw [hde] at hu1
  have hie := hT _ _ hte
  obtain ⟨j, hj, hjs, hjb, hjz⟩ := hie.infoE
  have hzc : (zeroVal i).cells.size = i.size := by rw [zero_cells hie]; simp [hie.len]
  have hbytes : (m0 + m) * j.bytes ≤ 140737488355328 := by
    rw [hjb]
    rcases hlen with hlen | hlen
    · calc (m0 + m) * i.bytes ≤ 4294967296 * 4096 := Nat.mul_le_mul hlen hby
        _ ≤ 140737488355328 := by decide
    · exact hlen.2
  have hlen : m0 + m ≤ 140737488355328 := by
    rcases hlen with hlen | hlen
    · omega
    · exact hlen.1
  obtain ⟨v', w', hrun, hown', hgr, hblk, hs'⟩ := app_core (P := P) (ty := type) hu1 hj hjz hjs hzc h1 hown hsl hl hone hy (by omega) hbytes (Nat.zero_le _)
  have hrun' : (execOp a.eval ⟨some d, .call ⟨.builtin .append, ⟨[x, y]⟩, ⟨[t1, t1]⟩⟩, type, pos, after, guard⟩).run P w = .ok (.value v') w' := by
    rw [exec_builtin]
    rw [← hev] at hrun
    simp only [builtin, Sem.run_bind, List.map_toArray, List.map_cons, List.map_nil, hrun]
    rfl
  have hkeep : Keeps Z w Z w' := fun b o hz => ⟨hz, keep_heap (hgr.block b (hI.zlt b o hz) (fun e => hvz b o e.symm hz))⟩
  refine wp_value hrun' (hn _ _ _ Z (setE E d v') v' w' hk ?_)
  rw [← hu']
  refine hI.arrAt hd hg hod hoo ((Kept.refl _ _).grown hgr hI.sltw hvS (fun k hk => by obtain ⟨cur, hc⟩ := own_cells hown hk; rw [hc]; exact fun h => nomatch h)) hkeep (fun b o hz => Nat.lt_of_lt_of_le (hI.zlt b o hz) hgr.size) (fun _ _ hz => .inl hz) hs' (fun hkp => ?_) (fun b hb => ?_) (fun t ht hot b hb => ?_)
  · refine ⟨xs ++ news, h1, by rw [hdl]; exact hown', hfoc, hlens, fun i' d' hi' hc' j c hj' => ?_, fun b o hb hz => ?_⟩
    · obtain ⟨h3, u3, h4, h5⟩ := hcells i' d' hi' hc' j c hj'
      exact ⟨h3, u3, h4, h5.keep hkeep hkp⟩
    · rcases hblk with hb1 | hb1
      · exact hvz b o (by rw [← hb1]; exact hb) hz
      · rw [hb1] at hb; injection hb with hb; have := hI.zlt b o hz; omega
  · rcases hblk with hb1 | hb1
    · exact hvS b (by rw [← hb1]; exact hb)
    · rw [hb1] at hb; injection hb with hb; exact hI.fresh (by omega)
  · have h3 := hothers t ht hot b hb
    have hlt := (hI.obj t).lt hb
    refine ⟨hgr.block b hlt (fun e => h3 e.symm), fun _ hz => hz, fun e => ?_⟩
    rcases hblk with hb1 | hb1
    · exact h3 (hb1.symm.trans e)
    · rw [hb1] at e; injection e with e; omega

theorem get_app {xs news : List Value} {m0 sz i j : Nat} (hxl : xs.length = m0 * sz) (hj : j < sz) : (xs ++ news)[i * sz + j]? = if i < m0 then xs[i * sz + j]? else news[(i - m0) * sz + j]? := by
  by_cases h : i < m0
  · rw [if_pos h, List.getElem?_append_left (by rw [hxl]; exact idx_lt h hj)]
  · have hge : m0 * sz ≤ i * sz := Nat.mul_le_mul_right _ (by omega)
    rw [if_neg h, List.getElem?_append_right (by rw [hxl]; omega), hxl, Nat.sub_mul]
    congr 1
    omega

theorem xsound_append (hT : TOk P T) (dst : Option Nat) (args : Array Operand) (argTypes : Array TypeId) (type : TypeId) (pos : String) (after : Array Edge) (guard : Option (Nat × Bool)) : XSound P G T ⟨dst, .call ⟨.builtin .append, args, argTypes⟩, type, pos, after, guard⟩ := by
  intro Z0 w0 S n Z E st a w K next Q hI hd h hn
  obtain ⟨args⟩ := args
  obtain ⟨argTypes⟩ := argTypes
  simp only [wpX, wpXappend] at h
  split at h
  · rename_i x y d t1 t2
    split at h
    · rename_i e _ _ _ _ _ ht1
      split at h
      · rename_i i hte
        replace h := bif_true h; obtain ⟨hchk, h⟩ := h
        simp only [Bool.and_eq_true] at hchk
        obtain ⟨⟨⟨ht12, h1⟩, hby⟩, hzl⟩ := hchk
        have := Nat.eq_of_beq_eq_true ht12
        subst this
        have h1 := Nat.le_of_ble_eq_true h1
        have hby := Nat.le_of_ble_eq_true hby
        have hx := look_rep hI x
        have hy := look_rep hI y
        split at h
        · -- onto nil
          rename_i hx0
          split at h
          · rename_i s2 ns hsl
            obtain ⟨hns, hlen, hk⟩ := h
            obtain ⟨news, hnl, hone, hyv, hcell⟩ := closed_news h1 hns (asSl_rep hy hsl)
            refine append_fin hT hI hd ht1 rfl hte h1 hby (v := .slice none 0 0) (by simp [Act.eval]) (World.ownsRow_nil w _ _ _) ⟨_, _, _, rfl⟩ (fun b o hb => by simp [Value.ownBlock] at hb) (fun b hb => by simp [Value.ownBlock] at hb) hnl hone hyv (by rw [Nat.zero_add]; exact hlen) rfl hk rfl hn (upd_one_same _ _ _)
              (fun t ht => .inl (upd_one_ne _ _ ht)) (by simp) ⟨(fun _ _ h => nomatch h), fun i' d' hd' _ => noRs_mk fun j c hj => (hcell i' j d' c hd' hj).2.choose_spec.2.notRs⟩ (fun i' d' _ hc' => hns d' (List.mem_of_getElem? hc')) (fun i' d' _ hc' j c hj => ?_) (fun t _ _ b _ => by simp [Value.ownBlock])
            obtain ⟨h3, u, h4, h5⟩ := hcell i' j d' c hc' hj
            exact ⟨h3, u, by simpa using h4, .cl h5⟩
          · exact h.elim
        · -- two slices that are written
          rename_i x _ _ _ t g s g2 hly hlx
          rw [hlx] at hx
          rw [hly] at hy
          split at h
          · rename_i g' el sz ds foc g2' el2 sz2 ds2 foc2 ho ho2
            replace h := bif_true h; obtain ⟨hchk, h⟩ := h
            simp only [Bool.and_eq_true, Bool.not_eq_true'] at hchk
            obtain ⟨⟨⟨⟨⟨⟨⟨⟨c1, c2⟩, c3⟩, c4⟩, c5⟩, c6⟩, c7⟩, c8⟩, c9⟩ := hchk
            have := Nat.eq_of_beq_eq_true c1
            subst this
            have := Nat.eq_of_beq_eq_true c2
            subst this
            have := Nat.eq_of_beq_eq_true c3
            subst this
            have := Nat.eq_of_beq_eq_true c4
            subst this
            have := Nat.eq_of_beq_eq_true c5
            subst this
            have hts : t ≠ s := fun e => by subst e; simp at c6
            have hsd : s ≠ d := fun e => by subst e; simp at c7
            have htd : t ≠ d := fun e => by subst e; simp at c8
            have hfn : foc = none := by cases foc <;> simp_all
            subst hfn
            obtain ⟨hlen, ds', rfl, hk⟩ := h
            have hot := hI.obj t
            rw [ho] at hot
            obtain ⟨xs, hszp, hown, hfoc, hdl, hcl, hz⟩ := hot
            have hos := hI.obj s
            rw [ho2] at hos
            obtain ⟨xs2, _, hown2, hfoc2, hdl2, hcl2, hz2⟩ := hos
            have hEt : E t = a.eval x := by generalize a.eval x = v at hx; cases hx with | rs _ _ _ _ _ hp => exact hp _ _ _ _ ho
            have hEs : E s = a.eval y := by generalize a.eval y = v at hy; cases hy with | rs _ _ _ _ _ hp => exact hp _ _ _ _ ho2
            have hslx : ∃ aa l k, a.eval x = .slice aa l k := by generalize a.eval x = v at hx; cases hx with | rs _ _ _ hs _ _ => exact hs
            rw [hEt] at hown hz
            rw [hEs] at hown2
            have hcell2 : ∀ k, k < ds2.length → ∃ d', cellX ds2 foc2 k = some d' := fun k hk2 => by
              unfold cellX
              split
              · exact ⟨_, List.getElem?_eq_getElem hk2⟩
              · split
                · exact ⟨_, rfl⟩
                · exact ⟨_, List.getElem?_eq_getElem hk2⟩
            have hcx : ∀ k, cellX (ds ++ ds2) (shiftF ds.length foc2) k = if k < ds.length then ds[k]? else cellX ds2 foc2 (k - ds.length) := by
              intro k
              cases foc2 with
              | none =>
                simp only [shiftF, cellX]
                split
                · rename_i hk; rw [List.getElem?_append_left hk]
                · rename_i hk; rw [List.getElem?_append_right (by omega)]
              | some p =>
                obtain ⟨m, cs⟩ := p
                simp only [shiftF, cellX]
                by_cases hk : k < ds.length
                · rw [if_neg (by omega), if_pos hk, List.getElem?_append_left hk]
                · rw [if_neg hk]
                  by_cases hkm : k = ds.length + m
                  · rw [if_pos hkm, if_pos (by omega)]
                  · rw [if_neg hkm, if_neg (by omega), List.getElem?_append_right (by omega)]
            refine append_fin hT hI hd ht1 rfl hte h1 hby rfl hown hslx hz (fun b hb => hI.own t b (by rw [ho, arr_blk, hEt]; exact hb)) (m := ds2.length) (news := xs2) (foc := shiftF ds.length foc2) hown2.1 ?_ ?_ (.inl hlen) rfl hk rfl hn ?_ ?_ List.length_append ?_ ?_ ?_ ?_
            · intro u hu
              obtain ⟨k, hkl, hku⟩ := List.getElem_of_mem hu
              have hk' : k < ds2.length * i.size := by rw [← hown2.1]; exact hkl
              have hq : k / i.size < ds2.length := Nat.div_lt_of_lt_mul (by rw [Nat.mul_comm]; exact hk')
              have hr : k % i.size < i.size := Nat.mod_lt _ h1
              obtain ⟨d', hd'⟩ := hcell2 _ hq
              have hdl' := hdl2 _ d' hq hd'
              have hc' : d'[k % i.size]? = some (d'[k % i.size]'(by omega)) := List.getElem?_eq_getElem (by omega)
              obtain ⟨hat, u', hu', hr'⟩ := hcl2 _ d' hq hd' _ _ hc'
              rw [div_mul_add, List.getElem?_eq_getElem hkl] at hu'
              injection hu' with hu'
              rw [← hku, hu']
              exact hr'.oneC hat
            · by_cases h0 : ds2.length = 0
              · left
                rcases hown2.2 with ⟨he, _⟩ | ⟨b, cap, cur, he, _⟩
                · exact ⟨h0, _, _, he⟩
                · exact ⟨h0, _, cap, by rw [he, h0]⟩
              · right
                obtain ⟨b, cap, he, _, _⟩ := own_form hown2 (by omega)
                refine ⟨⟨b, 0, none⟩, cap, he, by omega, fun k u hu => ?_⟩
                exact hown2.cells (by rw [he]; rfl) k u hu
            · simp only [upd]
              have e1 : Nat.beq t d = false := by cases hb : Nat.beq t d with | false => rfl | true => exact absurd (Nat.eq_of_beq_eq_true hb) htd
              have e2 : Nat.beq s d = false := by cases hb : Nat.beq s d with | false => rfl | true => exact absurd (Nat.eq_of_beq_eq_true hb) hsd
              rw [e1, e2]
              simp
            · intro q hq
              simp only [upd]
              cases e1 : Nat.beq t q with
              | true => have := Nat.eq_of_beq_eq_true e1; subst this; right; rw [ho]; rfl
              | false =>
                cases e2 : Nat.beq s q with
                | true => have := Nat.eq_of_beq_eq_true e2; subst this; right; rw [ho2]; rfl
                | false =>
                  have e3 : Nat.beq d q = false := by cases hb : Nat.beq d q with | false => rfl | true => exact absurd (Nat.eq_of_beq_eq_true hb).symm hq
                  left; rw [e3]; rfl
            · refine ⟨fun m' d' he => ?_, fun k d' hd' hne => ?_⟩
              · cases foc2 with
                | none => cases he
                | some p => obtain ⟨m, cs⟩ := p; simp [shiftF] at he; have := hfoc2.1 m cs rfl; simp; omega
              · by_cases hk : k < ds.length
                · rw [List.getElem?_append_left hk] at hd'
                  exact hfoc.2 k d' hd' (fun _ _ h => nomatch h)
                · rw [List.getElem?_append_right (by omega)] at hd'
                  refine hfoc2.2 _ d' hd' (fun m' d'' he => ?_)
                  subst he
                  have := hne (ds.length + m') d'' rfl
                  omega
            · intro k d' hk hc'
              rw [hcx] at hc'
              by_cases hkd : k < ds.length
              · rw [if_pos hkd] at hc'; exact hdl k d' hkd hc'
              · rw [if_neg hkd] at hc'; simp at hk; exact hdl2 _ d' (by omega) hc'
            · intro k d' hk hc' j c hj
              rw [hcx] at hc'
              have hjs : j < i.size := by
                have : d'.length = i.size := by
                  by_cases hkd : k < ds.length
                  · rw [if_pos hkd] at hc'; exact hdl k d' hkd hc'
                  · rw [if_neg hkd] at hc'; simp at hk; exact hdl2 _ d' (by omega) hc'
                rw [← this]; exact (List.getElem?_eq_some_iff.1 hj).1
              rw [get_app hown.1 hjs]
              by_cases hkd : k < ds.length
              · rw [if_pos hkd] at hc' ⊢; exact hcl k d' hkd hc' j c hj
              · rw [if_neg hkd] at hc' ⊢; simp at hk; exact hcl2 _ d' (by omega) hc' j c hj
            · intro q hq hoq b hb hb'
              have hqt : q ≠ t := fun e => by
                subst e
                simp only [upd] at hoq
                rw [show Nat.beq q q = true from by simp, cond_true, ho] at hoq
                simp at hoq
              exact hI.apart q t b hqt hb (by rw [ho, arr_blk, hEt]; exact hb')
          · exact h.elim
        · -- a slice that is written, a closed one behind it
          rename_i x _ _ _ t g hlx hnrs
          rw [hlx] at hx
          split at h
          · rename_i g' el sz ds foc s2 ns ho hsl
            replace h := bif_true h; obtain ⟨hchk, h⟩ := h
            simp only [Bool.and_eq_true] at hchk
            obtain ⟨⟨c1, c3⟩, c4⟩ := hchk
            have := Nat.eq_of_beq_eq_true c1
            subst this
            have := Nat.eq_of_beq_eq_true c3
            subst this
            have := Nat.eq_of_beq_eq_true c4
            subst this
            obtain ⟨hns, hlen, ds', rfl, hk⟩ := h
            obtain ⟨news, hnl, hone, hyv, hcell⟩ := closed_news h1 hns (asSl_rep hy hsl)
            have hot := hI.obj t
            rw [ho] at hot
            obtain ⟨xs, hszp, hown, hfoc, hdl, hcl, hz⟩ := hot
            have hEt : E t = a.eval x := by generalize a.eval x = v at hx; cases hx with | rs _ _ _ _ _ hp => exact hp _ _ _ _ ho
            have hslx : ∃ aa l k, a.eval x = .slice aa l k := by generalize a.eval x = v at hx; cases hx with | rs _ _ _ hs _ _ => exact hs
            rw [hEt] at hown hz
            have hcx : ∀ k, cellX (ds ++ ns) foc k = if k < ds.length then cellX ds foc k else ns[k - ds.length]? := by
              intro k
              unfold cellX
              cases foc with
              | none =>
                simp only
                split
                · rename_i hk; rw [List.getElem?_append_left hk]
                · rename_i hk; rw [List.getElem?_append_right (by omega)]
              | some p =>
                obtain ⟨m, cs⟩ := p
                have hm := hfoc.1 m cs rfl
                simp only
                by_cases hk : k < ds.length
                · rw [if_pos hk]
                  by_cases hkm : k = m
                  · rw [if_pos hkm, if_pos hkm]
                  · rw [if_neg hkm, if_neg hkm, List.getElem?_append_left hk]
                · rw [if_neg hk, if_neg (by omega), List.getElem?_append_right (by omega)]
            have hfoc' : FocOk (ds ++ ns) foc := by
              refine ⟨fun m' d' he => by have := hfoc.1 m' d' he; simp; omega, fun k d' hd' hne => ?_⟩
              by_cases hk : k < ds.length
              · rw [List.getElem?_append_left hk] at hd'
                exact hfoc.2 k d' hd' hne
              · rw [List.getElem?_append_right (by omega)] at hd'
                exact noRs_mk fun j c hj => (hcell _ j d' c hd' hj).2.choose_spec.2.notRs
            have hlens : ∀ (i' : Nat) (d' : List CV), i' < (ds ++ ns).length → cellX (ds ++ ns) foc i' = some d' → d'.length = i.size := by
              intro k d' hk hc'
              rw [hcx] at hc'
              by_cases hkd : k < ds.length
              · rw [if_pos hkd] at hc'; exact hdl k d' hkd hc'
              · rw [if_neg hkd] at hc'; exact hns d' (List.mem_of_getElem? hc')
            have hcells : ∀ (i' : Nat) (d' : List CV), i' < (ds ++ ns).length → cellX (ds ++ ns) foc i' = some d' → ∀ (j : Nat) (c : CV), d'[j]? = some c → c.atom = true ∧ ∃ u, (xs ++ news)[i' * i.size + j]? = some u ∧ RepX Z w st.obj E c u := by
              intro k d' hk hc' j c hj
              have hjs : j < i.size := by rw [← hlens k d' hk hc']; exact (List.getElem?_eq_some_iff.1 hj).1
              rw [hcx] at hc'
              rw [get_app hown.1 hjs]
              by_cases hkd : k < ds.length
              · rw [if_pos hkd] at hc' ⊢; exact hcl k d' hkd hc' j c hj
              · rw [if_neg hkd] at hc' ⊢
                obtain ⟨h3, u, h4, h5⟩ := hcell _ j d' c hc' hj
                exact ⟨h3, u, h4, .cl h5⟩
            have hoth : ∀ q b, q ≠ t → (st.obj q).2.blk (E q) b → (a.eval x).ownBlock ≠ some b := fun q b hqt hb hb' => hI.apart q t b hqt hb (by rw [ho, arr_blk, hEt]; exact hb')
            cases htd : Nat.beq t d with
            | true =>
              rw [htd] at hk
              simp only [cond_true] at hk
              have := Nat.eq_of_beq_eq_true htd
              subst this
              exact append_fin hT hI hd ht1 rfl hte h1 hby rfl hown hslx hz (fun b hb => hI.own t b (by rw [ho, arr_blk, hEt]; exact hb)) hnl hone hyv hlen (by rw [ho]) hk rfl hn (upd_one_same _ _ _) (fun q hq => .inl (upd_one_ne _ _ hq)) (by simp) hfoc' hlens hcells (fun q hq _ b hb => hoth q b hq hb)
            | false =>
              rw [htd] at hk
              simp only [cond_false] at hk
              have htd' : t ≠ d := fun e => by subst e; simp at htd
              refine append_fin hT hI hd ht1 rfl hte h1 hby rfl hown hslx hz (fun b hb => hI.own t b (by rw [ho, arr_blk, hEt]; exact hb)) hnl hone hyv hlen rfl hk rfl hn (upd_two_snd _ _ _ htd') (fun q hq => ?_) (by simp) hfoc' hlens hcells (fun q hq hoq b hb => hoth q b (fun e => ?_) hb)
              · by_cases hqt : q = t
                · subst hqt; right; rw [upd_two_fst, ho]
                · left; exact upd_two_ne _ _ _ hqt hq
              · subst e; rw [upd_two_fst, ho] at hoq; simp at hoq
          · exact h.elim
        · -- onto an empty literal
          rename_i x _ _ _ t g sz es hlx
          rw [hlx] at hx
          split at h
          · rename_i g' el s' s2 ns ho hsl
            replace h := bif_true h; obtain ⟨hchk, h⟩ := h
            simp only [Bool.and_eq_true, Bool.not_eq_true'] at hchk
            obtain ⟨⟨⟨⟨c1, c3⟩, c4⟩, c5⟩, c6⟩ := hchk
            have := Nat.eq_of_beq_eq_true c1
            subst this
            have := Nat.eq_of_beq_eq_true c3
            subst this
            have := Nat.eq_of_beq_eq_true c4
            subst this
            have := Nat.eq_of_beq_eq_true c5
            subst this
            have htd' : t ≠ d := fun e => by subst e; simp at c6
            obtain ⟨hes, hns, hlen, hk⟩ := h
            subst hes
            obtain ⟨news, hnl, hone, hyv, hcell⟩ := closed_news h1 hns (asSl_rep hy hsl)
            have hot := hI.obj t
            rw [ho] at hot
            obtain ⟨m0, xs, hszp, hown, hz⟩ := hot
            have hEt : E t = a.eval x := by generalize a.eval x = v at hx; cases hx with | ap _ _ _ _ _ _ _ hE => exact hE _ _ ho
            have hxr : Rep Z w (.sl i.size []) (a.eval x) := by generalize a.eval x = v at hx; cases hx with | ap _ _ _ _ _ hr _ _ => exact hr
            rw [hEt] at hown hz
            have hm0 : m0 = 0 := (own_rep hown hxr).1
            subst hm0
            have hslx : ∃ aa l k, a.eval x = .slice aa l k := by
              rcases hown.2 with ⟨he, _⟩ | ⟨b, cap, cur, he, _⟩ <;> exact ⟨_, _, _, he⟩
            have hxnil : xs = [] := List.eq_nil_of_length_eq_zero (by simpa using hown.1)
            subst hxnil
            refine append_fin hT hI hd ht1 rfl hte h1 hby rfl hown hslx ?_ (fun b hb => hI.own t b (by rw [ho, own_blk, hEt]; exact hb)) hnl hone hyv (.inl (by omega)) rfl hk rfl hn (upd_two_snd _ _ _ htd') (fun q hq => ?_) (by simp) ⟨(fun _ _ h => nomatch h), fun i' d' hd' _ => noRs_mk fun j c hj => (hcell i' j d' c hd' hj).2.choose_spec.2.notRs⟩ (fun i' d' _ hc' => hns d' (List.mem_of_getElem? hc')) (fun i' d' _ hc' j c hj => ?_) (fun q hq hoq b hb hb' => ?_)
            · intro b o hb hzz
              rcases hown.2 with ⟨he, _⟩ | ⟨b', cap, cur, he, _⟩
              · rw [he] at hb; simp [Value.ownBlock] at hb
              · rw [he] at hb
                simp [Value.ownBlock] at hb
                subst hb
                exact hz _ cap he o (by simp) hzz
            · by_cases hqt : q = t
              · subst hqt; right; rw [upd_two_fst, ho]
              · left; exact upd_two_ne _ _ _ hqt hq
            · obtain ⟨h3, u, h4, h5⟩ := hcell i' j d' c hc' hj
              exact ⟨h3, u, by simpa using h4, .cl h5⟩
            · have hqt : q ≠ t := fun e => by subst e; rw [upd_two_fst, ho] at hoq; simp at hoq
              exact hI.apart q t b hqt hb (by rw [ho, own_blk, hEt]; exact hb')
          · exact h.elim
        · exact h.elim
      · exact h.elim
    · exact h.elim
  · exact h.elim
end
end Go.Abs

/-
  Soundness of the operations on slices of the call's own that are written: literals, calls that hand such slices over; then all operations.
-/
namespace Go.Abs
open Go Go.RowKit

section
variable {P : Program} {G : World → Prop} {T : Tab} {Z0 : Base} {w0 : World} {S : Nat → Prop} {n : Nat} {Z Z' : Zone} {E : Nat → Value} {st : St} {a : Act} {w w' : World}

theorem xsound_buildSlice (hT : TOk P T) (dst : Option Nat) (t : TypeId) (len : Nat) (parts : Array (Nat × Operand)) (type : TypeId) (pos : String) (after : Array Edge) (guard : Option (Nat × Bool)) : XSound P G T ⟨dst, .buildSlice t len parts, type, pos, after, guard⟩ := by
  intro Z0 w0 S n Z E st a w K next Q hI hd h hn
  simp only [wpX] at h
  split at h
  · rename_i e _ _ _ _ _ hti
    split at h
    · rename_i i d x hte hparts
      split at h
      · rename_i cs hlx
        replace h := bif_true h; obtain ⟨hchk, cs0, h⟩ := h
        simp only [Bool.and_eq_true] at hchk
        obtain ⟨⟨⟨⟨hlen, hcl⟩, h1⟩, h2⟩, hzl⟩ := hchk
        have := Nat.eq_of_beq_eq_true hlen
        subst this
        have hcl := Nat.eq_of_beq_eq_true hcl
        have h1 := Nat.le_of_ble_eq_true h1
        have h2 := Nat.le_of_ble_eq_true h2
        have hi := hT _ _ hte
        obtain ⟨j, hj, hjs, hjb, hjz⟩ := hi.infoE
        have hu := (hT _ _ hti).u
        simp only at hu
        have hx := look_rep hI x
        rw [hlx] at hx
        have hpa : parts = #[(0, x)] := by cases parts; simp_all
        subst hpa
        generalize hax : a.eval x = xv at hx
        cases hx with
        | agx _ vs hl hr ha =>
          have hvl : vs.length = i.size := by omega
          have hcells : (Value.agg vs.toArray).cells = vs.toArray := rfl
          let zero : Array Value := (zeroVal i).cells
          let z0 : Array Value := (Array.range (1 * i.size)).map (zero[· % zero.size]!)
          have hz0 : z0.size = i.size := by simp [z0]
          have hfold := foldl_set (0 * i.size) vs 0 z0 (by simp [hz0, hvl])
          have heq : vs.toArray.zipIdx.foldl (fun cs (p : Value × Nat) => cs.setIfInBounds (0 * i.size + p.2) p.1) z0 = (vs.zipIdx 0).foldl (fun cs (p : Value × Nat) => cs.setIfInBounds (0 * i.size + p.2) p.1) z0 := by
            rw [← Array.foldl_toList, Array.toList_zipIdx]
          let cells := (vs.zipIdx 0).foldl (fun cs (p : Value × Nat) => cs.setIfInBounds (0 * i.size + p.2) p.1) z0
          have hcs : cells.size = 1 * i.size := hfold.1.trans (by rw [hz0, Nat.one_mul])
          have hget : ∀ k, k < i.size → cells[k]? = vs[k]? := fun k hk => by
            refine (hfold.2 k).trans ?_
            rw [if_pos (by omega)]
            congr 1
            omega
          have hfill : Instr.fill (fun i' => some (i' * i.size, i.size)) z0 [(0, Value.agg vs.toArray)] = some cells := by
            simp only [Instr.fill, hcells]
            rw [if_neg (by simp [hz0, hvl])]
            rw [heq]
          have hlim : ¬ (1 * i.size > 2 ^ 24) := by omega
          have h0 : ¬ (1 * i.size = 0) := by omega
          have hrun : (execOp a.eval ⟨some d, .buildSlice t 1 #[(0, x)], type, pos, after, guard⟩).run P w = .ok (.value (.slice (some ⟨w.heap.size, 0, none⟩) 1 1)) (w.alloc (.cells cells e)) := by
            have hzv : (zeroValue e).run P w = .ok (zeroVal i) w := by simp [zeroValue, typeInfo, hj, hjz]
            have hfill' : Instr.fill (fun i' => some (i' * i.size, i.size)) ((Array.range (1 * i.size)).map ((zeroVal i).cells[· % (zeroVal i).cells.size]!)) (#[(0, x)].map fun (i, x) => (i, a.eval x)).toList = some cells := by
              simp only [List.map_toArray, List.map_cons, List.map_nil, hax]
              exact hfill
            simp only [execOp, Instr.buildSlice, Sem.run_bind, run_underlying hu, Result.andThen_ok, hi.sizeOf w, if_neg hlim, Sem.run_pure, if_neg h0, hzv, hfill']
            rfl
          have hown := World.ownsRow_lit (base := 0) (e := e) (size := i.size) w cells 1 (Nat.zero_le _) (by simp only [maxLen]; omega) hcs
          have hkeep : Keeps Z w Z (w.alloc (.cells cells e)) := Keeps.alloc hI.zlt _
          refine wp_value hrun (hn _ _ _ Z (setE E d (.slice (some ⟨w.heap.size, 0, none⟩) 1 1)) _ _ h ?_)
          refine hI.arrAt hd rfl (upd_one_same _ _ _) (fun t ht => .inl (upd_one_ne _ _ ht)) (below_alloc hI _) hkeep (fun b o hz => by have := hI.zlt b o hz; simp; omega) (fun _ _ hz => .inl hz) ⟨_, _, _, rfl⟩ (fun hkp => ?_) (fun b hb => by simp [Value.ownBlock] at hb; exact hI.fresh (by omega)) (fun t ht _ b hb => ?_)
          · refine ⟨cells.toList, h1, hown, ⟨(fun m d he => by cases he; simp), fun i' d' _ hne => ?_⟩, ?_, ?_, fun b o hb hz => ?_⟩
            · rename_i hd'
              have hi' : i' = 0 := by have := (List.getElem?_eq_some_iff.1 hd').1; simpa using this
              subst hi'
              exact absurd rfl (hne 0 cs rfl)
            · intro i' d' hi' hc'
              have : i' = 0 := by simpa using hi'
              subst this
              simp [cellX] at hc'
              subst hc'
              exact hcl
            · intro i' d' hi' hc' j' c hj'
              have : i' = 0 := by simpa using hi'
              subst this
              simp [cellX] at hc'
              subst hc'
              have hjl : j' < cs.length := (List.getElem?_eq_some_iff.1 hj').1
              have hv : vs[j']? = some (vs[j']'(by omega)) := List.getElem?_eq_getElem (by omega)
              refine ⟨ha j' c hj', _, ?_, (hr j' c _ hj' hv).keep hkeep hkp⟩
              rw [Nat.zero_mul, Nat.zero_add, Array.getElem?_toList, hget j' (by omega), hv]
            · simp [Value.ownBlock] at hb
              have := hI.zlt b o hz
              omega
          · have hlt := (hI.obj t).lt hb
            refine ⟨heap_alloc_old w _ hlt, fun _ hz => hz, ?_⟩
            simp [Value.ownBlock]
            omega
      · exact h.elim
    · exact h.elim
  · exact h.elim

theorem renO_get (obj : Objs) (d m : Nat) : ∀ (os : List (Nat × Nat × List (List CV) × Option (Nat × List CV))) (k : Nat) (t : Nat),
    (∀ j, j < os.length → t ≠ sig d (k + j)) → upd obj (renO obj d m k os) t = obj t
  | [], _, _, _ => rfl
  | (el, sz, ds, foc) :: r, k, t, h => by
    simp only [renO, upd]
    have h0 : sig d k ≠ t := fun e => h 0 (by simp) (by simpa using e.symm)
    have : Nat.beq (sig d k) t = false := by cases hb : Nat.beq (sig d k) t with | false => rfl | true => exact absurd (Nat.eq_of_beq_eq_true hb) h0
    rw [this]
    simp only [cond_false]
    refine renO_get obj d m r (k + 1) t fun j hj => ?_
    have := h (j + 1) (by simpa using hj)
    rwa [show k + 1 + j = k + (j + 1) from by omega]
theorem sig_inj {d j j' : Nat} (h : sig d j = sig d j') : j = j' := by unfold sig at h; omega
theorem renO_at (obj : Objs) (d m : Nat) : ∀ (os : List (Nat × Nat × List (List CV) × Option (Nat × List CV))) (k j : Nat) (el sz : Nat) (ds : List (List CV)) (foc : Option (Nat × List CV)),
    os[j]? = some (el, sz, ds, foc) → upd obj (renO obj d m k os) (sig d (k + j)) = ((obj (sig d (k + j))).1 + 1, .arr el sz ds (renF obj d m foc))
  | [], _, _, _, _, _, _, h => by simp at h
  | (el', sz', ds', foc') :: r, k, 0, el, sz, ds, foc, h => by
    simp at h
    obtain ⟨rfl, rfl, rfl, rfl⟩ := h
    simp [renO, upd]
  | (el', sz', ds', foc') :: r, k, j + 1, el, sz, ds, foc, h => by
    simp only [renO, upd]
    have : Nat.beq (sig d k) (sig d (k + (j + 1))) = false := by
      cases hb : Nat.beq (sig d k) (sig d (k + (j + 1))) with
      | false => rfl
      | true => have := sig_inj (Nat.eq_of_beq_eq_true hb); omega
    rw [this]
    simp only [cond_false]
    have := renO_at obj d m r (k + 1) j el sz ds foc (by simpa using h)
    rwa [show k + 1 + j = k + (j + 1) from by omega] at this

theorem xsound_call (c : Call) (hc : ∀ b, c.callee ≠ .builtin b) (dst : Option Nat) (type : TypeId) (pos : String) (after : Array Edge) (guard : Option (Nat × Bool)) : XSound P G T ⟨dst, .call c, type, pos, after, guard⟩ := by
  intro Z0 w0 S n Z E st a w K next Q hI hd h hn
  have hcall : wpXcall (orc P G) (look st) st.obj c dst K := by
    unfold wpX at h
    cases hcc : c.callee with
    | builtin b => exact absurd hcc (hc b)
    | value f => simp only [hcc] at h; exact h
    | invoke r m => simp only [hcc] at h; exact h
  clear h
  unfold wpXcall at hcall
  split at hcall
  · rename_i f args more d hargs
    split at hcall
    · rename_i cs ts hfr
      replace hcall := bif_true hcall
      obtain ⟨hte, r, os, hholds, hcall⟩ := hcall
      have htn : ts = [] := by simpa using hte
      subst htn
      split at hcall
      · rename_i s hren
        obtain ⟨hbody, hcalls⟩ := hholds
        obtain ⟨vs, hrl, hrun⟩ := call_prep hI hargs hfr hbody (some d) type pos after guard
        refine wpE_of_wp (fun _ h => nomatch h) ?_
        unfold Oper.wp
        rw [hrun]
        simp only [Oper.upon]
        have hzlt : ∀ b o, Zf Z st.obj E [] b o → b < w.heap.size := fun b o hz => hz.elim (hI.zlt b o) fun ⟨s, _, hb⟩ => (hI.obj s).lt hb
        refine (hcalls _ w _ hrl hzlt (fun w1 hb1 => hI.gs _ (hI.below.trans (.of_below hb1 hI.sltw)))).mono ?_
        rintro e w' ⟨x, Z'', rfl, hrep, hsub, hnew, hbel⟩
        obtain ⟨Eo, hobjs, hapart, hfrs, hsl, hfocs, hres⟩ := hrep
        have hbel0 : Kept S w w' := .of_below hbel hI.sltw
        have hkeep : Keeps Z w Z'' w' := fun b o hz => ⟨hsub b o (.inl hz), keep_heap (hbel.block b (hI.zlt b o hz))⟩
        have hnew' : ∀ b o, Z'' b o → (Z b o ∨ w.heap.size ≤ b) := fun b o hz => (hnew b o hz).1.imp (fun h => h.elim id (fun ⟨s, hs, _⟩ => by simp at hs)) id
        -- the objects that came
        let E' : Nat → Value := fun t => if d ≤ t ∧ (t - d) % 65536 = 0 ∧ (t - d) / 65536 < os.length then Eo ((t - d) / 65536) else E t
        have hE' : ∀ j, j < os.length → E' (sig d j) = Eo j := fun j hj => by
          have h1 : sig d j - d = 65536 * j := by unfold sig; omega
          have h2 : (65536 * j) / 65536 = j := by omega
          have h3 : (65536 * j) % 65536 = 0 := by omega
          show (if _ then _ else _) = _
          rw [h1, h2, h3, if_pos ⟨by unfold sig; omega, rfl, hj⟩]
        have hE'n : ∀ t, (∀ j, j < os.length → t ≠ sig d j) → E' t = E t := fun t ht => by
          show (if _ then _ else _) = _
          rw [if_neg]
          rintro ⟨h1, h2, h3⟩
          exact ht _ h3 (by unfold sig; omega)
        let obj' := upd st.obj (renO st.obj d os.length 0 os)
        have hob : ∀ j el sz ds foc, os[j]? = some (el, sz, ds, foc) → obj' (sig d j) = ((st.obj (sig d j)).1 + 1, .arr el sz ds (renF st.obj d os.length foc)) := fun j el sz ds foc hj => by
          have := renO_at st.obj d os.length os 0 j el sz ds foc hj
          simpa using this
        have hobn : ∀ t, (∀ j, j < os.length → t ≠ sig d j) → obj' t = st.obj t := fun t ht => renO_get st.obj d os.length os 0 t (fun j hj => by simpa using ht j hj)
        have hget : ∀ j, j < os.length → ∃ el sz ds foc, os[j]? = some (el, sz, ds, foc) := fun j hj => ⟨_, _, _, _, List.getElem?_eq_getElem hj⟩
        -- references
        have hx : ∀ (c : CV) (u : Value), c.isRs = false → (∀ j, c = .ow j → j < os.length) → RepX Z'' w' (obo os) Eo (own0 c) u → RepX Z'' w' obj' E' (renC st.obj d os.length c) u := by
          intro c u hcr hcj hr
          cases c with
          | ow j =>
            have hj := hcj j rfl
            obtain ⟨el, sz, ds, foc, hos⟩ := hget j hj
            simp only [own0] at hr
            cases hr with
            | one hr =>
              cases hr with
              | cl hr => cases hr
              | rs _ _ _ hs _ hE =>
                have hblt : Nat.blt j os.length = true := by simp [Nat.blt]; omega
                simp only [renC, hblt, cond_true]
                refine .one (.rs _ _ _ hs (by rw [hob j el sz ds foc hos]; exact Nat.le_refl _) fun _ _ _ _ _ => ?_)
                rw [hE' j hj]
                cases foc with
                | none => exact hE el sz ds none (by simp [obo, hos])
                | some p => obtain ⟨m, cs⟩ := p; exact hE el sz ds (some (m, cs.map own0)) (by simp [obo, hos])
          | rs t g => cases hcr
          | pr t g off => cases hcr
          | mr t g => cases hcr
          | xr t g => cases hcr
          | fr f caps => cases hcr
          | bp T f => cases hcr
          | _ => exact .cl (hr.closed rfl)
        have hobjk : ObjKeep st.obj E obj' E' → ∀ t, (∃ j, j < os.length ∧ t = sig d j) → ObjOk Z'' w' obj' E' (E' t) (obj' t).2 := by
          rintro _ t ⟨j, hj, rfl⟩
          obtain ⟨el, sz, ds, foc, hos⟩ := hget j hj
          rw [hob j el sz ds foc hos, hE' j hj]
          have ho := hobjs j
          cases foc with
          | none =>
            simp only [obo, hos] at ho
            obtain ⟨xs, h1, h2, h3, h4, h5, h6⟩ := ho
            refine ⟨xs, h1, h2, h3, h4, fun i' d' hi' hc' j' c hj' => ?_, h6⟩
            obtain ⟨q1, u, q2, q3⟩ := h5 i' d' hi' hc' j' c hj'
            have hcr := noRs_get (h3.2 i' d' hc' (fun _ _ h => nomatch h)) hj'
            exact ⟨q1, u, q2, .cl (q3.closed hcr)⟩
          | some p =>
            obtain ⟨m, cs⟩ := p
            simp only [obo, hos] at ho
            obtain ⟨xs, h1, h2, h3, h4, h5, h6⟩ := ho
            obtain ⟨hnr, hoj⟩ := hfocs j el sz ds m cs hos
            have hcx : ∀ k, cellX ds (renF st.obj d os.length (some (m, cs))) k = if k = m then some (cs.map (renC st.obj d os.length)) else ds[k]? := fun k => rfl
            have hcx0 : ∀ k, cellX ds (some (m, cs.map own0)) k = if k = m then some (cs.map own0) else ds[k]? := fun k => rfl
            refine ⟨xs, h1, h2, ⟨fun m' d' he => ?_, fun i' d' hd' hne => ?_⟩, fun i' d' hi' hc' => ?_, fun i' d' hi' hc' j' c hj' => ?_, h6⟩
            · simp only [renF, Option.some.injEq, Prod.mk.injEq] at he
              rw [← he.1]
              exact h3.1 m _ rfl
            · exact h3.2 i' d' hd' (fun m' d'' he => by
                simp only [Option.some.injEq, Prod.mk.injEq] at he
                rw [← he.1]
                exact hne m (cs.map (renC st.obj d os.length)) rfl)
            · rw [hcx] at hc'
              by_cases hk : i' = m
              · rw [if_pos hk] at hc'
                injection hc' with hc'
                subst hc'
                have := h4 i' (cs.map own0) hi' (by rw [hcx0, if_pos hk])
                simpa using this
              · rw [if_neg hk] at hc'
                exact h4 i' d' hi' (by rw [hcx0, if_neg hk]; exact hc')
            · rw [hcx] at hc'
              by_cases hk : i' = m
              · rw [if_pos hk] at hc'
                injection hc' with hc'
                subst hc'
                rw [List.getElem?_map] at hj'
                cases hc0 : cs[j']? with
                | none => rw [hc0] at hj'; simp at hj'
                | some c0 =>
                  rw [hc0] at hj'
                  simp at hj'
                  subst hj'
                  obtain ⟨q1, u, q2, q3⟩ := h5 i' (cs.map own0) hi' (by rw [hcx0, if_pos hk]) j' (own0 c0) (by rw [List.getElem?_map, hc0]; rfl)
                  refine ⟨?_, u, q2, hx c0 u (noRs_get hnr hc0) (fun j he => hoj j' j (by rw [hc0, he])) q3⟩
                  cases c0 <;> first | exact q1 | (simp only [renC]; cases Nat.blt _ _ <;> rfl)
              · rw [if_neg hk] at hc'
                obtain ⟨q1, u, q2, q3⟩ := h5 i' d' hi' (by rw [hcx0, if_neg hk]; exact hc') j' c hj'
                have hcr := noRs_get (h3.2 i' d' hc' (fun m' d'' he => by
                  simp only [Option.some.injEq, Prod.mk.injEq] at he
                  rw [← he.1]; exact hk)) hj'
                exact ⟨q1, u, q2, .cl (q3.closed hcr)⟩
        have hblk : ∀ j, j < os.length → ∀ b, (obj' (sig d j)).2.blk (E' (sig d j)) b → (obo os j).2.blk (Eo j) b := fun j hj b hb => by
          obtain ⟨el, sz, ds, foc, hos⟩ := hget j hj
          rw [hob j el sz ds foc hos, hE' j hj, arr_blk] at hb
          cases foc with
          | none => simp only [obo, hos, arr_blk]; exact hb
          | some p => obtain ⟨m, cs⟩ := p; simp only [obo, hos, arr_blk]; exact hb
        refine hn _ _ _ Z'' E' x w' hcall ?_
        refine hI.renew (fun t => ∃ j, j < os.length ∧ t = sig d j) hd hbel0 hkeep (fun b o hz => (hnew b o hz).2) (fun b o hz => (hnew' b o hz).imp id hI.fresh) (fun t ht => ?_) ?_ hobjk ?_ ?_ ?_ ?_
        · have ht' : ∀ j, j < os.length → t ≠ sig d j := fun j hj e => ht ⟨j, hj, e⟩
          exact ⟨hobn t ht', hE'n t ht'⟩
        · rintro t ⟨j, hj, rfl⟩
          obtain ⟨el, sz, ds, foc, hos⟩ := hget j hj
          have h9 := hob j el sz ds foc hos
          show (st.obj (sig d j)).1 < (obj' (sig d j)).1 ∨ _
          rw [h9]
          exact .inl (Nat.lt_succ_self _)
        · intro t ht b hb
          have hlt := (hI.obj t).lt hb
          refine ⟨hbel.block b hlt, fun k hz => (hnew' b k hz).resolve_right (by omega), ?_⟩
          rintro s ⟨j, hj, rfl⟩ hb'
          have := hfrs j b (hblk j hj b hb')
          omega
        · rintro t t' b ⟨j, hj, rfl⟩ ⟨j', hj', rfl⟩ hne h1 h2
          exact hapart j j' b (fun e => hne (by rw [e])) (hblk j hj b h1) (hblk j' hj' b h2)
        · rintro t ⟨j, hj, rfl⟩ b hb
          exact hI.fresh (hfrs j b (hblk j hj b hb))
        · cases r with
          | ow j =>
            obtain ⟨rfl, hj⟩ := hres
            have hblt : Nat.blt j os.length = true := by simp [Nat.blt]; omega
            simp only [renR, hblt, cond_true, Option.some.injEq] at hren
            subst hren
            obtain ⟨el, sz, ds, foc, hos⟩ := hget j hj
            refine .rs _ _ _ (hsl j hj) (by have := hob j el sz ds foc hos; show _ ≤ (obj' (sig d j)).1; rw [this]; exact Nat.le_refl _) fun _ _ _ _ _ => hE' j hj
          | agg cs0 =>
            simp only [renR, Option.some.injEq] at hren
            subst hren
            obtain ⟨vs0, hnr, rfl, hl0, hr0, ha0, hoj⟩ := hres
            refine .agx _ vs0 (by simpa using hl0) (fun i c v h1 h2 => ?_) (fun i c h1 => ?_)
            · rw [List.getElem?_map] at h1
              cases hc0 : cs0[i]? with
              | none => rw [hc0] at h1; simp at h1
              | some c0 =>
                rw [hc0] at h1
                simp at h1
                subst h1
                exact hx c0 v (noRs_get hnr hc0) (fun j he => hoj i j (by rw [hc0, he])) (hr0 i c0 v hc0 h2)
            · rw [List.getElem?_map] at h1
              cases hc0 : cs0[i]? with
              | none => rw [hc0] at h1; simp at h1
              | some c0 =>
                rw [hc0] at h1
                simp at h1
                subst h1
                have := ha0 i c0 hc0
                cases c0 <;> first | exact this | (simp only [renC]; cases Nat.blt _ _ <;> rfl)
          | _ => exact hres.elim
      · exact hcall.elim
    · exact hcall.elim
  · exact hcall.elim

theorem x_sound (hT : TOk P T) (o : Oper) : XSound P G T o := by
  obtain ⟨dst, op, type, pos, after, guard⟩ := o
  cases op with
  | load t x => exact xsound_load hT _ _ _ _ _ _ _
  | store t x y => exact xsound_store hT _ _ _ _ _ _ _ _
  | nilCheck x => exact xsound_nilCheck _ _ _ _ _ _
  | fieldAddr t x k => exact xsound_fieldAddr hT _ _ _ _ _ _ _ _
  | indexAddr t x i => exact xsound_indexAddr hT _ _ _ _ _ _ _ _
  | slice t x lo hi mx => exact xsound_slice hT _ _ _ _ _ _ _ _ _ _
  | buildSlice t len ps => exact xsound_buildSlice hT _ _ _ _ _ _ _ _
  | call c =>
    obtain ⟨callee, args, argTypes⟩ := c
    cases callee with
    | builtin b =>
      by_cases h1 : b = .len
      · subst h1; exact xsound_len hT _ _ _ _ _ _ _
      · by_cases h2 : b = .append
        · subst h2; exact xsound_append hT _ _ _ _ _ _ _
        · intro Z0 w0 S n Z E st a w K next Q hI hd h hn
          cases b <;> first | exact absurd rfl h1 | exact absurd rfl h2 | exact h.elim
    | value f => exact xsound_call _ (fun b h => by cases h) _ _ _ _ _
    | invoke r m => exact xsound_call _ (fun b h => by cases h) _ _ _ _ _
  | _ => intro Z0 w0 S n Z E st a w K next Q hI hd h hn; exact h.elim

end
end Go.Abs

/-
  Soundness: an operation by what is known of it; objects of the call's own are handed over and come back.
-/
namespace Go.Abs
open Go Go.RowKit

theorem idx2_spec : ∀ (τ : List (Nat × Nat)) (s h k j : Nat), idx2 τ s h k = some j → ∃ i, j = k + i ∧ τ[i]? = some (s, h)
  | [], _, _, _, _, he => by simp [idx2] at he
  | (t, g) :: r, s, h, k, j, he => by
    simp only [idx2] at he
    cases hb : (Nat.beq t s && Nat.beq g h) with
    | true =>
      rw [hb] at he
      simp at he
      simp only [Bool.and_eq_true] at hb
      have h1 := Nat.eq_of_beq_eq_true hb.1
      have h2 := Nat.eq_of_beq_eq_true hb.2
      subst h1; subst h2; subst he
      exact ⟨0, rfl, rfl⟩
    | false =>
      rw [hb] at he
      simp only [cond_false] at he
      obtain ⟨i, h1, h2⟩ := idx2_spec r s h (k + 1) j he
      exact ⟨i + 1, by omega, by simpa using h2⟩
theorem idx2_at {τ : List (Nat × Nat)} {s h j : Nat} (he : idx2 τ s h 0 = some j) : τ[j]? = some (s, h) := by
  obtain ⟨i, h1, h2⟩ := idx2_spec τ s h 0 j he
  rw [h1, Nat.zero_add]; exact h2

/-- The same objects under other names. -/
structure Match (τ : List (Nat × Nat)) (γ : Nat → Nat) (obj : Objs) (E : Nat → Value) (objc : Objs) (Eo : Nat → Value) : Prop where
  at_ : ∀ j t g, τ[j]? = some (t, g) → (obj t).1 = g ∧ ∃ o', oTo τ γ (obj t).2 = some o' ∧ objc j = (γ j, o') ∧ Eo j = E t

section
variable {τ : List (Nat × Nat)} {γ : Nat → Nat} {Z : Zone} {w : World} {obj objc : Objs} {E Eo : Nat → Value}

theorem oTo_arr {o o' : AObj} {el sz : Nat} {ds : List (List CV)} {foc : Option (Nat × List CV)} (h : oTo τ γ o = some o') (he : o' = .arr el sz ds foc) : ∃ foc0, o = .arr el sz ds foc0 := by
  subst he
  unfold oTo at h
  split at h
  · cases hc : csTo τ γ _ with
    | none => rw [hc] at h; simp at h
    | some cs => rw [hc] at h; simp at h
  · cases hc : csTo τ γ _ with
    | none => rw [hc] at h; simp at h
    | some cs => rw [hc] at h; simp at h
  · cases hc : csTo τ γ _ with
    | none => rw [hc] at h; simp at h
    | some cs => rw [hc] at h; simp at h; obtain ⟨rfl, rfl, rfl, _⟩ := h; exact ⟨_, rfl⟩
  · simp at h; subst h; exact ⟨_, rfl⟩
theorem oTo_tok {o o' : AObj} {el sz : Nat} (h : oTo τ γ o = some o') (he : o' = .tok el sz) : o = .tok el sz := by
  subst he
  unfold oTo at h
  split at h
  · cases hc : csTo τ γ _ with
    | none => rw [hc] at h; simp at h
    | some cs => rw [hc] at h; simp at h
  · cases hc : csTo τ γ _ with
    | none => rw [hc] at h; simp at h
    | some cs => rw [hc] at h; simp at h
  · cases hc : csTo τ γ _ with
    | none => rw [hc] at h; simp at h
    | some cs => rw [hc] at h; simp at h
  · simp at h; exact h
theorem oTo_map {o o' : AObj} {es : List (CV × CV)} (h : oTo τ γ o = some o') (he : o' = .map es) : o = .map es := by
  subst he
  unfold oTo at h
  split at h
  · cases hc : csTo τ γ _ with
    | none => rw [hc] at h; simp at h
    | some cs => rw [hc] at h; simp at h
  · cases hc : csTo τ γ _ with
    | none => rw [hc] at h; simp at h
    | some cs => rw [hc] at h; simp at h
  · cases hc : csTo τ γ _ with
    | none => rw [hc] at h; simp at h
    | some cs => rw [hc] at h; simp at h
  · simp at h; exact h
theorem oTo_var {o o' : AObj} {cs : List CV} (h : oTo τ γ o = some o') (he : o' = .var cs ∨ o' = .ro cs ∨ o' = .varx cs) : ∃ cs0, o = .var cs0 ∨ o = .ro cs0 ∨ o = .varx cs0 := by
  unfold oTo at h
  split at h
  · exact ⟨_, .inr (.inr rfl)⟩
  · cases hc : csTo τ γ _ with
    | none => rw [hc] at h; simp at h
    | some cs => rw [hc] at h; simp at h; subst h; simp at he
  · cases hc : csTo τ γ _ with
    | none => rw [hc] at h; simp at h
    | some cs => rw [hc] at h; simp at h; subst h; simp at he
  · simp at h; subst h
    rcases he with he | he | he
    · exact ⟨_, .inl he⟩
    · exact ⟨_, .inr (.inl he)⟩
    · exact ⟨_, .inr (.inr he)⟩
theorem oTo_blk {o o' : AObj} (h : oTo τ γ o = some o') (e : Value) {b : Nat} : o'.blk e b = o.blk e b := by
  unfold oTo at h
  split at h
  · cases hc : csTo τ γ _ with
    | none => rw [hc] at h; simp at h
    | some cs => rw [hc] at h; simp at h; subst h; cases e <;> first | rfl | (rename_i a; cases a <;> rfl)
  · cases hc : csTo τ γ _ with
    | none => rw [hc] at h; simp at h
    | some cs => rw [hc] at h; simp at h; subst h; rfl
  · cases hc : csTo τ γ _ with
    | none => rw [hc] at h; simp at h
    | some cs => rw [hc] at h; simp at h; subst h; rw [arr_blk, arr_blk]
  · simp at h; subst h; rfl

theorem Match.live (M : Match τ γ obj E objc Eo) {j t g : Nat} (hj : τ[j]? = some (t, g)) (h : live objc j (γ j)) : live obj t g := by
  obtain ⟨h1, o', h2, h3, _⟩ := M.at_ j t g hj
  obtain ⟨cs, h⟩ := h
  rw [h3] at h
  simp only [Prod.mk.injEq, true_and] at h
  obtain ⟨cs0, h4⟩ := oTo_var h2 h
  refine ⟨cs0, ?_⟩
  rcases h4 with h4 | h4 | h4
  · exact .inl (by rw [← h1, ← h4])
  · exact .inr (.inl (by rw [← h1, ← h4]))
  · exact .inr (.inr (by rw [← h1, ← h4]))
theorem Match.arr (M : Match τ γ obj E objc Eo) {j t g el sz : Nat} {ds : List (List CV)} {foc : Option (Nat × List CV)} (hj : τ[j]? = some (t, g)) (h : objc j = (γ j, .arr el sz ds foc)) : ∃ foc0, obj t = (g, .arr el sz ds foc0) := by
  obtain ⟨h1, o', h2, h3, _⟩ := M.at_ j t g hj
  rw [h3] at h
  simp only [Prod.mk.injEq, true_and] at h
  obtain ⟨f0, h4⟩ := oTo_arr h2 h
  exact ⟨f0, by rw [← h1, ← h4]⟩
theorem Match.map (M : Match τ γ obj E objc Eo) {j t g : Nat} {es : List (CV × CV)} (hj : τ[j]? = some (t, g)) (h : objc j = (γ j, .map es)) : obj t = (g, .map es) := by
  obtain ⟨h1, o', h2, h3, _⟩ := M.at_ j t g hj
  rw [h3] at h
  simp only [Prod.mk.injEq, true_and] at h
  rw [← h1, ← oTo_map h2 h]
theorem oTo_ext {o o' : AObj} {K : ExtK} {cs : List CV} (h : oTo τ γ o = some o') (he : o' = .ext K cs) : ∃ cs0, o = .ext K cs0 := by
  subst he
  unfold oTo at h
  split at h
  · cases hc : csTo τ γ _ with
    | none => rw [hc] at h; simp at h
    | some cs => rw [hc] at h; simp at h
  · cases hc : csTo τ γ _ with
    | none => rw [hc] at h; simp at h
    | some cs => rw [hc] at h; simp at h; obtain ⟨rfl, _⟩ := h; exact ⟨_, rfl⟩
  · cases hc : csTo τ γ _ with
    | none => rw [hc] at h; simp at h
    | some cs => rw [hc] at h; simp at h
  · simp at h; exact ⟨_, h⟩
theorem Match.ext (M : Match τ γ obj E objc Eo) {j t g : Nat} {K : ExtK} {cs : List CV} (hj : τ[j]? = some (t, g)) (h : objc j = (γ j, .ext K cs)) : ∃ cs0, obj t = (g, .ext K cs0) := by
  obtain ⟨h1, o', h2, h3, _⟩ := M.at_ j t g hj
  rw [h3] at h
  simp only [Prod.mk.injEq, true_and] at h
  obtain ⟨cs0, h4⟩ := oTo_ext h2 h
  exact ⟨cs0, by rw [← h1, ← h4]⟩
theorem Match.tok (M : Match τ γ obj E objc Eo) {j t g el sz : Nat} (hj : τ[j]? = some (t, g)) (h : objc j = (γ j, .tok el sz)) : obj t = (g, .tok el sz) := by
  obtain ⟨h1, o', h2, h3, _⟩ := M.at_ j t g hj
  rw [h3] at h
  simp only [Prod.mk.injEq, true_and] at h
  rw [← h1, ← oTo_tok h2 h]
theorem Match.gen (M : Match τ γ obj E objc Eo) {j t g : Nat} (hj : τ[j]? = some (t, g)) : γ j ≤ (objc j).1 ∧ Eo j = E t := by
  obtain ⟨h1, o', h2, h3, h4⟩ := M.at_ j t g hj
  rw [h3]; exact ⟨Nat.le_refl _, h4⟩

theorem c1_closed {c c' : CV} (h : cTo1 τ γ c = some c') (hn : c.isRs = false) : c' = c := by
  cases c <;> first | (simp [cTo1] at h; exact h.symm) | (simp [CV.isRs] at hn)
theorem c_closed {c c' : CV} (h : cTo τ γ c = some c') (hn : c.isRs = false) : c' = c := by
  cases c <;> first | exact c1_closed (τ := τ) (γ := γ) h hn | (simp [CV.isRs] at hn)
theorem rs_to {t g : Nat} {f : Nat → CV} {c' : CV} (h : (idx2 τ t g 0).map f = some c') : ∃ j, τ[j]? = some (t, g) ∧ c' = f j := by
  cases hi : idx2 τ t g 0 with
  | none => rw [hi] at h; simp at h
  | some j => rw [hi] at h; simp at h; exact ⟨j, idx2_at hi, h.symm⟩
theorem rs_toS {t g : Nat} {f : Nat → SV} {c' : SV} (h : (idx2 τ t g 0).map f = some c') : ∃ j, τ[j]? = some (t, g) ∧ c' = f j := by
  cases hi : idx2 τ t g 0 with
  | none => rw [hi] at h; simp at h
  | some j => rw [hi] at h; simp at h; exact ⟨j, idx2_at hi, h.symm⟩
theorem RepX1.to (M : Match τ γ obj E objc Eo) {c c' : CV} {x : Value} (h : RepX1 Z w obj E c x) (hc : cTo1 τ γ c = some c') : RepX1 Z w objc Eo c' x := by
  cases h with
  | cl h => rw [c1_closed hc h.notRs]; exact .cl h
  | rs t g x hs hg h =>
    obtain ⟨j, hj, rfl⟩ := rs_to hc
    refine .rs j (γ j) x hs (M.gen hj).1 fun el sz ds foc ho => ?_
    obtain ⟨f0, h0⟩ := M.arr hj ho
    rw [(M.gen hj).2]; exact h _ _ _ _ h0
  | pr t g off x hs hg h =>
    obtain ⟨j, hj, rfl⟩ := rs_to hc
    refine .pr j (γ j) off x hs (M.gen hj).1 fun hl => ?_
    rw [(M.gen hj).2]; exact h (M.live hj hl)
  | mr t g x hs hg h =>
    obtain ⟨j, hj, rfl⟩ := rs_to hc
    refine .mr j (γ j) x hs (M.gen hj).1 fun es ho => ?_
    rw [(M.gen hj).2]; exact h _ (M.map hj ho)
  | xr t g x hs hg h =>
    obtain ⟨j, hj, rfl⟩ := rs_to hc
    refine .xr j (γ j) x hs (M.gen hj).1 fun K cs ho => ?_
    obtain ⟨cs0, h0⟩ := M.ext hj ho
    rw [(M.gen hj).2]; exact h _ _ h0
  | bp T f x hs => simp [cTo1] at hc; subst hc; exact .bp T f x hs
theorem csTo1_spec : ∀ {cs cs' : List CV}, csTo1 τ γ cs = some cs' → cs'.length = cs.length ∧ ∀ (i : Nat) (c' : CV), cs'[i]? = some c' → ∃ c, cs[i]? = some c ∧ cTo1 τ γ c = some c'
  | [], cs', h => by simp [csTo1] at h; subst h; exact ⟨rfl, fun i c' h => by simp at h⟩
  | c :: r, cs', h => by
    simp only [csTo1] at h
    split at h
    · rename_i d ds h1 h2
      simp at h; subst h
      obtain ⟨k1, k2⟩ := csTo1_spec h2
      refine ⟨by simp [k1], fun i c' hi => ?_⟩
      cases i with
      | zero => simp at hi; subst hi; exact ⟨c, rfl, h1⟩
      | succ i => exact k2 i c' (by simpa using hi)
    · simp at h
theorem csTo_spec : ∀ {cs cs' : List CV}, csTo τ γ cs = some cs' → cs'.length = cs.length ∧ ∀ (i : Nat) (c' : CV), cs'[i]? = some c' → ∃ c, cs[i]? = some c ∧ cTo τ γ c = some c'
  | [], cs', h => by simp [csTo] at h; subst h; exact ⟨rfl, fun i c' h => by simp at h⟩
  | c :: r, cs', h => by
    simp only [csTo] at h
    split at h
    · rename_i d ds h1 h2
      simp at h; subst h
      obtain ⟨k1, k2⟩ := csTo_spec h2
      refine ⟨by simp [k1], fun i c' hi => ?_⟩
      cases i with
      | zero => simp at hi; subst hi; exact ⟨c, rfl, h1⟩
      | succ i => exact k2 i c' (by simpa using hi)
    · simp at h
theorem ssTo1_spec : ∀ {cs cs' : List SV}, ssTo1 τ γ cs = some cs' → cs'.length = cs.length ∧ ∀ (i : Nat) (c' : SV), cs'[i]? = some c' → ∃ c, cs[i]? = some c ∧ sTo1 τ γ c = some c'
  | [], cs', h => by simp [ssTo1] at h; subst h; exact ⟨rfl, fun i c' h => by simp at h⟩
  | c :: r, cs', h => by
    simp only [ssTo1] at h
    split at h
    · rename_i d ds h1 h2
      simp at h; subst h
      obtain ⟨k1, k2⟩ := ssTo1_spec h2
      refine ⟨by simp [k1], fun i c' hi => ?_⟩
      cases i with
      | zero => simp at hi; subst hi; exact ⟨c, rfl, h1⟩
      | succ i => exact k2 i c' (by simpa using hi)
    · simp at h
theorem ssTo_spec : ∀ {cs cs' : List SV}, ssTo τ γ cs = some cs' → cs'.length = cs.length ∧ ∀ (i : Nat) (c' : SV), cs'[i]? = some c' → ∃ c, cs[i]? = some c ∧ sTo τ γ c = some c'
  | [], cs', h => by simp [ssTo] at h; subst h; exact ⟨rfl, fun i c' h => by simp at h⟩
  | c :: r, cs', h => by
    simp only [ssTo] at h
    split at h
    · rename_i d ds h1 h2
      simp at h; subst h
      obtain ⟨k1, k2⟩ := ssTo_spec h2
      refine ⟨by simp [k1], fun i c' hi => ?_⟩
      cases i with
      | zero => simp at hi; subst hi; exact ⟨c, rfl, h1⟩
      | succ i => exact k2 i c' (by simpa using hi)
    · simp at h
theorem RepX.to (M : Match τ γ obj E objc Eo) {c c' : CV} {x : Value} (h : RepX Z w obj E c x) (hc : cTo τ γ c = some c') : RepX Z w objc Eo c' x := by
  cases h with
  | one h =>
    cases c with
    | fr f caps => cases h with | cl h => cases h
    | _ => exact .one (h.to M hc)
  | fr f caps vs hl h =>
    simp only [cTo] at hc
    cases hk : csTo1 τ γ caps with
    | none => rw [hk] at hc; simp at hc
    | some cs =>
      rw [hk] at hc
      simp at hc
      subst hc
      obtain ⟨k1, k2⟩ := csTo1_spec hk
      refine .fr f cs vs (k1.trans hl) fun i c' x h1 h2 => ?_
      obtain ⟨c, h3, h4⟩ := k2 i c' h1
      exact (h i c x h3 h2).to M h4
theorem c1_atom {c c' : CV} (h : cTo1 τ γ c = some c') : c'.atom = c.atom := by
  cases c <;> first | (simp [cTo1] at h; done) | (simp [cTo1] at h; rw [← h]; done) | (obtain ⟨j, _, rfl⟩ := rs_to h; rfl)
theorem c_atom {c c' : CV} (h : cTo τ γ c = some c') : c'.atom = c.atom := by
  cases c with
  | fr f caps =>
    simp only [cTo] at h
    cases hk : csTo1 τ γ caps with
    | none => rw [hk] at h; simp at h
    | some cs => rw [hk] at h; simp at h; subst h; rfl
  | _ => exact c1_atom (τ := τ) (γ := γ) h
theorem RepS.to1 (M : Match τ γ obj E objc Eo) {s s' : SV} {x : Value} (h : RepS Z w obj E s x) (hc : sTo1 τ γ s = some s') : RepS Z w objc Eo s' x := by
  cases h with
  | any x => simp [sTo1] at hc; subst hc; exact .any _
  | un => simp [sTo1] at hc; subst hc; exact .un
  | kt => simp [sTo1] at hc; subst hc; exact .kt
  | kf => simp [sTo1] at hc; subst hc; exact .kf
  | c c x h => simp [sTo1] at hc; subst hc; exact .c _ _ h
  | pm t g off x hs hg h =>
    obtain ⟨j, hj, rfl⟩ := rs_toS hc
    refine .pm j (γ j) off x hs (M.gen hj).1 fun hl => ?_
    rw [(M.gen hj).2]; exact h (M.live hj hl)
  | ap t g sz es x h hg ht =>
    simp only [sTo1] at hc
    cases hi : idx2 τ t g 0 with
    | none => rw [hi] at hc; simp at hc; subst hc; exact .c _ _ h
    | some j =>
      rw [hi] at hc; simp at hc; subst hc
      have hj := idx2_at hi
      exact .ap j (γ j) sz es x h (M.gen hj).1 fun el s ho => by rw [(M.gen hj).2]; exact ht _ _ (M.tok hj ho)
  | fnr => simp [sTo1] at hc
  | rs t g x hs hg h =>
    obtain ⟨j, hj, rfl⟩ := rs_toS hc
    refine .rs j (γ j) x hs (M.gen hj).1 fun el sz ds foc ho => ?_
    obtain ⟨f0, h0⟩ := M.arr hj ho
    rw [(M.gen hj).2]; exact h _ _ _ _ h0
  | agx cs vs hl h ha =>
    simp only [sTo1] at hc
    cases hk : csTo τ γ cs with
    | none => rw [hk] at hc; simp at hc
    | some cs' =>
      rw [hk] at hc; simp at hc; subst hc
      obtain ⟨k1, k2⟩ := csTo_spec hk
      refine .agx cs' vs (k1.trans hl) (fun i c' x h1 h2 => ?_) (fun i c' h1 => ?_)
      · obtain ⟨c, h3, h4⟩ := k2 i c' h1
        exact (h i c x h3 h2).to M h4
      · obtain ⟨c, h3, h4⟩ := k2 i c' h1
        rw [c_atom h4]; exact ha i c h3
  | tpx cs vs hl h ha =>
    simp only [sTo1] at hc
    cases hk : csTo τ γ cs with
    | none => rw [hk] at hc; simp at hc
    | some cs' =>
      rw [hk] at hc; simp at hc; subst hc
      obtain ⟨k1, k2⟩ := csTo_spec hk
      refine .tpx cs' vs (k1.trans hl) (fun i c' x h1 h2 => ?_) (fun i c' h1 => ?_)
      · obtain ⟨c, h3, h4⟩ := k2 i c' h1
        exact (h i c x h3 h2).to M h4
      · obtain ⟨c, h3, h4⟩ := k2 i c' h1
        rw [c_atom h4]; exact ha i c h3
  | pe t g n off x hg h =>
    obtain ⟨j, hj, rfl⟩ := rs_toS hc
    refine .pe j (γ j) n off x (M.gen hj).1 fun el sz ds foc ho => ?_
    obtain ⟨f0, h0⟩ := M.arr hj ho
    rw [(M.gen hj).2]; exact h _ _ _ _ h0
  | ss t g lo x hg h =>
    obtain ⟨j, hj, rfl⟩ := rs_toS hc
    refine .ss j (γ j) lo x (M.gen hj).1 fun el sz ds foc ho => ?_
    obtain ⟨f0, h0⟩ := M.arr hj ho
    rw [(M.gen hj).2]; exact h _ _ _ _ h0
  | mr t g x hs hg h =>
    obtain ⟨j, hj, rfl⟩ := rs_toS hc
    refine .mr j (γ j) x hs (M.gen hj).1 fun es ho => ?_
    rw [(M.gen hj).2]; exact h _ (M.map hj ho)
  | xr t g x hs hg h =>
    obtain ⟨j, hj, rfl⟩ := rs_toS hc
    refine .xr j (γ j) x hs (M.gen hj).1 fun K cs ho => ?_
    obtain ⟨cs0, h0⟩ := M.ext hj ho
    rw [(M.gen hj).2]; exact h _ _ h0
  | xf t g f x hg h =>
    obtain ⟨j, hj, rfl⟩ := rs_toS hc
    refine .xf j (γ j) f x (M.gen hj).1 fun K cs ho => ?_
    obtain ⟨cs0, h0⟩ := M.ext hj ho
    rw [(M.gen hj).2]; exact h _ _ h0
theorem RepS.to (M : Match τ γ obj E objc Eo) {s s' : SV} {x : Value} (h : RepS Z w obj E s x) (hc : sTo τ γ s = some s') : RepS Z w objc Eo s' x := by
  cases s with
  | fnr f caps =>
    cases h with
    | fnr _ _ vs hf hl h =>
      simp only [sTo] at hc
      cases hk : ssTo1 τ γ caps with
      | none => rw [hk] at hc; simp at hc
      | some cs =>
        rw [hk] at hc; simp at hc; subst hc
        obtain ⟨k1, k2⟩ := ssTo1_spec hk
        refine .fnr f cs vs hf (k1.trans hl) fun i c' x h1 h2 => ?_
        obtain ⟨c, h3, h4⟩ := k2 i c' h1
        exact (h i c x h3 h2).to1 M h4
  | _ => exact h.to1 M hc
theorem cTo_bp {c : CV} {T : Nat} {f : Bool} (h : cTo τ γ c = some (.bp T f)) : c = .bp T f := by
  cases c <;> simp [cTo, cTo1] at h ⊢ <;> exact h
theorem ObjOk.to (M : Match τ γ obj E objc Eo) {o o' : AObj} {e : Value} (h : ObjOk Z w obj E e o) (hc : oTo τ γ o = some o') : ObjOk Z w objc Eo e o' := by
  cases o with
  | varx cs =>
    simp only [oTo] at hc
    cases hk : csTo τ γ cs with
    | none => rw [hk] at hc; simp at hc
    | some cs' =>
      rw [hk] at hc; simp at hc; subst hc
      obtain ⟨k1, k2⟩ := csTo_spec hk
      obtain ⟨b, el, arr, h1, h2, h3, h4, h5⟩ := h
      refine ⟨b, el, arr, h1, h2, h3.trans k1.symm, fun j c' hj => ?_, h5.1, h5.2.same fun j T f hj => ?_⟩
      rotate_left
      · obtain ⟨c, h6, h7⟩ := k2 j _ hj
        rw [h6, cTo_bp h7]
      obtain ⟨c, h6, h7⟩ := k2 j c' hj
      obtain ⟨q1, x, q2, q3⟩ := h4 j c h6
      exact ⟨by rw [c_atom h7]; exact q1, x, q2, q3.to M h7⟩
  | arr el sz ds foc =>
    obtain ⟨xs, h1, h2, h3, h4, h5, h6⟩ := h
    cases foc with
    | none =>
      simp [oTo] at hc; subst hc
      refine ⟨xs, h1, h2, h3, h4, fun i d hi hcx j c hj => ?_, h6⟩
      obtain ⟨q1, u, q2, q3⟩ := h5 i d hi hcx j c hj
      exact ⟨q1, u, q2, .cl (q3.closed (noRs_get (h3.2 i d hcx (fun _ _ h => nomatch h)) hj))⟩
    | some p =>
      obtain ⟨m, cs⟩ := p
      simp only [oTo] at hc
      cases hk : csTo τ γ cs with
      | none => rw [hk] at hc; simp at hc
      | some cs' =>
        rw [hk] at hc; simp at hc; subst hc
        obtain ⟨k1, k2⟩ := csTo_spec hk
        have hcx : ∀ k, cellX ds (some (m, cs')) k = if k = m then some cs' else ds[k]? := fun k => rfl
        have hcx0 : ∀ k, cellX ds (some (m, cs)) k = if k = m then some cs else ds[k]? := fun k => rfl
        refine ⟨xs, h1, h2, ⟨fun m' d' he => by cases he; exact h3.1 m cs rfl, fun i d hd hne => h3.2 i d hd fun m' d' he => by cases he; exact hne m cs' rfl⟩, fun i d hi hc' => ?_, fun i d hi hc' j c hj => ?_, h6⟩
        · rw [hcx] at hc'
          by_cases hk' : i = m
          · rw [if_pos hk'] at hc'
            cases hc'
            rw [k1]; exact h4 i cs hi (by rw [hcx0, if_pos hk'])
          · rw [if_neg hk'] at hc'
            exact h4 i d hi (by rw [hcx0, if_neg hk']; exact hc')
        · rw [hcx] at hc'
          by_cases hk' : i = m
          · rw [if_pos hk'] at hc'
            cases hc'
            obtain ⟨c0, h7, h8⟩ := k2 j c hj
            obtain ⟨q1, u, q2, q3⟩ := h5 i cs hi (by rw [hcx0, if_pos hk']) j c0 h7
            exact ⟨by rw [c_atom h8]; exact q1, u, q2, q3.to M h8⟩
          · rw [if_neg hk'] at hc'
            obtain ⟨q1, u, q2, q3⟩ := h5 i d hi (by rw [hcx0, if_neg hk']; exact hc') j c hj
            exact ⟨q1, u, q2, .cl (q3.closed (noRs_get (h3.2 i d hc' (fun m' d' he => by cases he; exact hk')) hj))⟩
  | none => simp [oTo] at hc; subst hc; exact h
  | spent => simp [oTo] at hc; subst hc; exact h
  | var cs => simp [oTo] at hc; subst hc; exact h
  | ro cs => simp [oTo] at hc; subst hc; exact h
  | tok el sz => simp [oTo] at hc; subst hc; exact h
  | map es => simp [oTo] at hc; subst hc; exact h
  | lp l R q => simp [oTo] at hc; subst hc; exact h
  | ext K cs =>
    simp only [oTo] at hc
    cases hk : csTo τ γ cs with
    | none => rw [hk] at hc; simp at hc
    | some cs' =>
      rw [hk] at hc; simp at hc; subst hc
      obtain ⟨k1, k2⟩ := csTo_spec hk
      obtain ⟨us, h1, h2, h3⟩ := h
      refine ⟨us, h1.trans k1.symm, fun j c' hj => ?_, h3⟩
      obtain ⟨c, h6, h7⟩ := k2 j c' hj
      obtain ⟨x, q2, q3⟩ := h2 j c h6
      exact ⟨x, q2, q3.to M h7⟩
theorem osTo_spec {obj : Objs} : ∀ {l : List (Nat × Nat)} {k : Nat} {os : List (Nat × AObj)}, osTo τ γ obj k l = some os → os.length = l.length ∧ ∀ (j t g : Nat), l[j]? = some (t, g) → (obj t).1 = g ∧ ∃ o', oTo τ γ (obj t).2 = some o' ∧ os[j]? = some (γ (k + j), o')
  | [], k, os, h => by simp [osTo] at h; subst h; exact ⟨rfl, fun j t g h => by simp at h⟩
  | (t, g) :: r, k, os, h => by
    simp only [osTo] at h
    cases hb : Nat.beq (obj t).1 g with
    | false => rw [hb] at h; simp at h
    | true =>
      rw [hb] at h
      simp only [cond_true] at h
      split at h
      · rename_i o os' h1 h2
        simp at h; subst h
        obtain ⟨k1, k2⟩ := osTo_spec h2
        refine ⟨by simp [k1], fun j t' g' hj => ?_⟩
        cases j with
        | zero => simp at hj; obtain ⟨rfl, rfl⟩ := hj; exact ⟨Nat.eq_of_beq_eq_true hb, o, h1, rfl⟩
        | succ j =>
          obtain ⟨q1, o', q2, q3⟩ := k2 j t' g' (by simpa using hj)
          exact ⟨q1, o', q2, by rw [show k + (j + 1) = k + 1 + j by omega]; simpa using q3⟩
      · simp at h
end

theorem nodupS_spec : ∀ {l : List Nat}, nodupS l = true → ∀ (i j x : Nat), l[i]? = some x → l[j]? = some x → i = j
  | [], _, i, _, _, h, _ => by simp at h
  | y :: r, hn, i, j, x, hi, hj => by
    simp only [nodupS] at hn
    cases hb : r.any (Nat.beq y) with
    | true => rw [hb] at hn; cases hn
    | false =>
      rw [hb] at hn
      simp only [cond_false] at hn
      rw [List.any_eq_false] at hb
      have hy : ∀ k, r[k]? ≠ some y := fun k hk => hb y (List.mem_of_getElem? hk) (Nat.beq_refl y)
      cases i with
      | zero =>
        cases j with
        | zero => rfl
        | succ j => simp at hi; subst hi; exact absurd (by simpa using hj) (hy j)
      | succ i =>
        cases j with
        | zero => simp at hj; subst hj; exact absurd (by simpa using hi) (hy i)
        | succ j => rw [nodupS_spec hn i j x (by simpa using hi) (by simpa using hj)]

section
variable {obj : Objs} {d off : Nat} {τ : List (Nat × Nat)}
theorem uBk_sites : ∀ (os : List (Nat × AObj)) (k j : Nat), j < os.length → ((uBk obj d off τ k os).map (·.1))[j]? = some (bkS d off τ (k + j))
  | [], _, _, h => by simp at h
  | (g, o) :: r, k, j, h => by
    cases j with
    | zero => simp [uBk]
    | succ j =>
      have := uBk_sites r (k + 1) j (by simpa using h)
      rw [show k + (j + 1) = k + 1 + j by omega]
      simpa [uBk] using this
theorem upd_uBk_at {obj0 : Objs} : ∀ (os : List (Nat × AObj)) (k j g : Nat) (o : AObj), nodupS ((uBk obj d off τ k os).map (·.1)) = true → os[j]? = some (g, o) → upd obj0 (uBk obj d off τ k os) (bkS d off τ (k + j)) = (bkG obj d off τ (k + j) g, oBk obj d off τ o)
  | [], _, _, _, _, _, h => by simp at h
  | (g0, o0) :: r, k, j, g, o, hn, h => by
    cases j with
    | zero => simp at h; obtain ⟨rfl, rfl⟩ := h; simp [uBk, upd]
    | succ j =>
      have hne : Nat.beq (bkS d off τ k) (bkS d off τ (k + (j + 1))) = false := by
        cases hb : Nat.beq (bkS d off τ k) (bkS d off τ (k + (j + 1))) with
        | false => rfl
        | true =>
          have he := Nat.eq_of_beq_eq_true hb
          have hlt : j + 1 < ((g0, o0) :: r).length := (List.getElem?_eq_some_iff.1 h).1
          have := nodupS_spec hn 0 (j + 1) _ (uBk_sites ((g0, o0) :: r) k 0 (by simp)) (by rw [uBk_sites ((g0, o0) :: r) k (j + 1) hlt]; exact congrArg some he.symm)
          omega
      simp only [uBk, upd, hne, cond_false]
      have hn' : nodupS ((uBk obj d off τ (k + 1) r).map (·.1)) = true := by
        simp only [uBk, List.map_cons, nodupS] at hn
        cases hb : List.any ((uBk obj d off τ (k + 1) r).map (·.1)) (Nat.beq (bkS d off τ k)) with
        | true => rw [hb] at hn; cases hn
        | false => rw [hb] at hn; exact hn
      have := upd_uBk_at (obj0 := obj0) r (k + 1) j g o hn' (by simpa using h)
      rw [show k + (j + 1) = k + 1 + j by omega]
      exact this
theorem upd_uBk_ne {obj0 : Objs} : ∀ (os : List (Nat × AObj)) (k t : Nat), (∀ j, j < os.length → t ≠ bkS d off τ (k + j)) → upd obj0 (uBk obj d off τ k os) t = obj0 t
  | [], _, _, _ => rfl
  | (g0, o0) :: r, k, t, h => by
    have hne : Nat.beq (bkS d off τ k) t = false := by
      cases hb : Nat.beq (bkS d off τ k) t with
      | false => rfl
      | true => exact absurd (Nat.eq_of_beq_eq_true hb).symm (h 0 (by simp))
    simp only [uBk, upd, hne, cond_false]
    exact upd_uBk_ne r (k + 1) t fun j hj => by
      rw [show k + 1 + j = k + (j + 1) by omega]
      exact h (j + 1) (by simpa using hj)
theorem bkG_le {j k k' : Nat} (h : k ≤ k') : bkG obj d off τ j k ≤ bkG obj d off τ j k' := by unfold bkG; split <;> omega
theorem bkG_inj {j k k' : Nat} (h : bkG obj d off τ j k = bkG obj d off τ j k') : k = k' := by unfold bkG at h; split at h <;> omega

/-- The way back: objects under the caller's own names. -/
structure Back (obj : Objs) (d off : Nat) (τ : List (Nat × Nat)) (os : List (Nat × AObj)) (Eo : Nat → Value) (obj' : Objs) (E' : Nat → Value) : Prop where
  at_ : ∀ j g o, os[j]? = some (g, o) → obj' (bkS d off τ j) = (bkG obj d off τ j g, oBk obj d off τ o) ∧ E' (bkS d off τ j) = Eo j
variable {os : List (Nat × AObj)} {Eo E' : Nat → Value} {obj' : Objs} {Z : Zone} {w : World}
theorem oBk_blk (o : AObj) (e : Value) {b : Nat} : (oBk obj d off τ o).blk e b = o.blk e b := by
  cases o with
  | varx cs => cases e <;> first | rfl | (rename_i a; cases a <;> rfl)
  | arr el sz ds foc =>
    cases foc with
    | none => rfl
    | some p => obtain ⟨m, cs⟩ := p; simp only [oBk]; rw [arr_blk, arr_blk]
  | _ => rfl
theorem Back.live (B : Back obj d off τ os Eo obj' E') {j k : Nat} (hj : j < os.length) (h : live obj' (bkS d off τ j) (bkG obj d off τ j k)) : live (objL os) j k := by
  have hos : os[j]? = some (os[j].1, os[j].2) := List.getElem?_eq_getElem hj
  obtain ⟨h1, _⟩ := B.at_ j _ _ hos
  obtain ⟨cs, h⟩ := h
  rw [h1] at h
  have hl : objL os j = (os[j].1, os[j].2) := by unfold objL; rw [hos]
  rcases h with h | h | h
  all_goals
    simp only [Prod.mk.injEq] at h
    have hk := bkG_inj h.1
    rw [hk] at hl
    have h2 := h.2
  · cases ho : os[j].2 with
    | var cs0 => rw [ho] at hl; exact ⟨cs0, .inl hl⟩
    | arr el sz ds foc => rw [ho] at h2; cases foc <;> simp [oBk] at h2
    | _ => rw [ho] at h2; simp [oBk] at h2
  · cases ho : os[j].2 with
    | ro cs0 => rw [ho] at hl; exact ⟨cs0, .inr (.inl hl)⟩
    | arr el sz ds foc => rw [ho] at h2; cases foc <;> simp [oBk] at h2
    | _ => rw [ho] at h2; simp [oBk] at h2
  · cases ho : os[j].2 with
    | varx cs0 => rw [ho] at hl; exact ⟨cs0, .inr (.inr hl)⟩
    | arr el sz ds foc => rw [ho] at h2; cases foc <;> simp [oBk] at h2
    | _ => rw [ho] at h2; simp [oBk] at h2
theorem Back.arr (B : Back obj d off τ os Eo obj' E') {j k el sz : Nat} {ds : List (List CV)} {foc : Option (Nat × List CV)} (hj : j < os.length) (h : obj' (bkS d off τ j) = (bkG obj d off τ j k, .arr el sz ds foc)) : ∃ foc0, objL os j = (k, .arr el sz ds foc0) := by
  have hos : os[j]? = some (os[j].1, os[j].2) := List.getElem?_eq_getElem hj
  obtain ⟨h1, _⟩ := B.at_ j _ _ hos
  rw [h1] at h
  have hl : objL os j = (os[j].1, os[j].2) := by unfold objL; rw [hos]
  simp only [Prod.mk.injEq] at h
  rw [bkG_inj h.1] at hl
  have h2 := h.2
  cases ho : os[j].2 with
  | arr el' sz' ds' foc' =>
    rw [ho] at h2 hl
    cases foc' with
    | none => simp [oBk] at h2; obtain ⟨rfl, rfl, rfl, _⟩ := h2; exact ⟨_, hl⟩
    | some p => obtain ⟨m, cs⟩ := p; simp [oBk] at h2; obtain ⟨rfl, rfl, rfl, _⟩ := h2; exact ⟨_, hl⟩
  | _ => rw [ho] at h2; simp [oBk] at h2
theorem Back.map (B : Back obj d off τ os Eo obj' E') {j k : Nat} {es : List (CV × CV)} (hj : j < os.length) (h : obj' (bkS d off τ j) = (bkG obj d off τ j k, .map es)) : objL os j = (k, .map es) := by
  have hos : os[j]? = some (os[j].1, os[j].2) := List.getElem?_eq_getElem hj
  obtain ⟨h1, _⟩ := B.at_ j _ _ hos
  rw [h1] at h
  have hl : objL os j = (os[j].1, os[j].2) := by unfold objL; rw [hos]
  simp only [Prod.mk.injEq] at h
  rw [bkG_inj h.1] at hl
  have h2 := h.2
  cases ho : os[j].2 with
  | map es' => rw [ho] at h2 hl; simp [oBk] at h2; subst h2; exact hl
  | arr el sz ds foc => rw [ho] at h2; cases foc <;> simp [oBk] at h2
  | _ => rw [ho] at h2; simp [oBk] at h2
theorem Back.ext (B : Back obj d off τ os Eo obj' E') {j k : Nat} {K : ExtK} {cs : List CV} (hj : j < os.length) (h : obj' (bkS d off τ j) = (bkG obj d off τ j k, .ext K cs)) : ∃ cs0, objL os j = (k, .ext K cs0) := by
  have hos : os[j]? = some (os[j].1, os[j].2) := List.getElem?_eq_getElem hj
  obtain ⟨h1, _⟩ := B.at_ j _ _ hos
  rw [h1] at h
  have hl : objL os j = (os[j].1, os[j].2) := by unfold objL; rw [hos]
  simp only [Prod.mk.injEq] at h
  rw [bkG_inj h.1] at hl
  have h2 := h.2
  cases ho : os[j].2 with
  | ext K' cs' => rw [ho] at h2 hl; simp [oBk] at h2; obtain ⟨rfl, _⟩ := h2; exact ⟨_, hl⟩
  | arr el sz ds foc => rw [ho] at h2; cases foc <;> simp [oBk] at h2
  | _ => rw [ho] at h2; simp [oBk] at h2
theorem Back.tok (B : Back obj d off τ os Eo obj' E') {j k el sz : Nat} (hj : j < os.length) (h : obj' (bkS d off τ j) = (bkG obj d off τ j k, .tok el sz)) : objL os j = (k, .tok el sz) := by
  have hos : os[j]? = some (os[j].1, os[j].2) := List.getElem?_eq_getElem hj
  obtain ⟨h1, _⟩ := B.at_ j _ _ hos
  rw [h1] at h
  have hl : objL os j = (os[j].1, os[j].2) := by unfold objL; rw [hos]
  simp only [Prod.mk.injEq] at h
  rw [bkG_inj h.1] at hl
  have h2 := h.2
  cases ho : os[j].2 with
  | tok el' sz' => rw [ho] at h2 hl; simp [oBk] at h2; obtain ⟨rfl, rfl⟩ := h2; exact hl
  | arr el sz ds foc => rw [ho] at h2; cases foc <;> simp [oBk] at h2
  | _ => rw [ho] at h2; simp [oBk] at h2
theorem Back.gen (B : Back obj d off τ os Eo obj' E') {j k : Nat} (hj : j < os.length) (hk : k ≤ (objL os j).1) : bkG obj d off τ j k ≤ (obj' (bkS d off τ j)).1 ∧ E' (bkS d off τ j) = Eo j := by
  have hos : os[j]? = some (os[j].1, os[j].2) := List.getElem?_eq_getElem hj
  obtain ⟨h1, h2⟩ := B.at_ j _ _ hos
  have hl : objL os j = (os[j].1, os[j].2) := by unfold objL; rw [hos]
  rw [hl] at hk
  rw [h1]
  exact ⟨bkG_le hk, h2⟩
theorem blt_lt {j n : Nat} (h : Nat.blt j n = true) : j < n := Nat.le_of_ble_eq_true h
theorem RepX1.back (B : Back obj d off τ os Eo obj' E') {c : CV} {x : Value} (h : RepX1 Z w (objL os) Eo c x) (hc : cLt1 os.length c = true) : RepX1 Z w obj' E' (cBk1 obj d off τ c) x := by
  cases h with
  | cl h => have hn := h.notRs; cases c <;> first | exact .cl h | (simp [CV.isRs] at hn)
  | rs j k x hs hg h =>
    have hj := blt_lt hc
    obtain ⟨g1, g2⟩ := B.gen hj hg
    refine .rs _ _ x hs g1 fun el sz ds foc ho => ?_
    obtain ⟨f0, h0⟩ := B.arr hj ho
    rw [g2]; exact h _ _ _ _ h0
  | pr j k off x hs hg h =>
    have hj := blt_lt hc
    obtain ⟨g1, g2⟩ := B.gen hj hg
    refine .pr _ _ _ x hs g1 fun hl => ?_
    rw [g2]; exact h (B.live hj hl)
  | mr j k x hs hg h =>
    have hj := blt_lt hc
    obtain ⟨g1, g2⟩ := B.gen hj hg
    refine .mr _ _ x hs g1 fun es ho => ?_
    rw [g2]; exact h _ (B.map hj ho)
  | xr j k x hs hg h =>
    have hj := blt_lt hc
    obtain ⟨g1, g2⟩ := B.gen hj hg
    refine .xr _ _ x hs g1 fun K cs ho => ?_
    obtain ⟨cs0, h0⟩ := B.ext hj ho
    rw [g2]; exact h _ _ h0
  | bp T f x hs => exact .bp T f x hs
theorem all_get {α : Type} {p : α → Bool} {l : List α} (h : l.all p = true) {i : Nat} {x : α} (hi : l[i]? = some x) : p x = true := List.all_eq_true.1 h x (List.mem_of_getElem? hi)
theorem RepX.back (B : Back obj d off τ os Eo obj' E') {c : CV} {x : Value} (h : RepX Z w (objL os) Eo c x) (hc : cLt os.length c = true) : RepX Z w obj' E' (cBk obj d off τ c) x := by
  cases h with
  | one h =>
    cases c with
    | fr f caps => cases h with | cl h => cases h
    | _ => exact .one (h.back B hc)
  | fr f caps vs hl h =>
    simp only [cLt] at hc
    refine .fr f _ vs (by simpa using hl) fun i c x h1 h2 => ?_
    rw [List.getElem?_map] at h1
    cases hk : caps[i]? with
    | none => rw [hk] at h1; simp at h1
    | some c0 => rw [hk] at h1; simp at h1; subst h1; exact (h i c0 x hk h2).back B (all_get hc hk)
theorem cBk_atom (c : CV) : (cBk obj d off τ c).atom = c.atom := by cases c <;> rfl
theorem RepS.back1 (B : Back obj d off τ os Eo obj' E') {s : SV} {x : Value} (h : RepS Z w (objL os) Eo s x) (hs : ∀ f caps, s ≠ .fnr f caps) (hc : sLt1 os.length s = true) : RepS Z w obj' E' (sBk1 obj d off τ s) x := by
  cases h with
  | any x => exact .any _
  | un => exact .un
  | kt => exact .kt
  | kf => exact .kf
  | c c x h => exact .c _ _ h
  | pm j k off x hs hg h =>
    have hj := blt_lt hc
    obtain ⟨g1, g2⟩ := B.gen hj hg
    refine .pm _ _ _ x hs g1 fun hl => ?_
    rw [g2]; exact h (B.live hj hl)
  | ap j k sz es x h hg ht =>
    have hj := blt_lt hc
    obtain ⟨g1, g2⟩ := B.gen hj hg
    exact .ap _ _ sz es x h g1 fun el s ho => by rw [g2]; exact ht _ _ (B.tok hj ho)
  | fnr f caps => exact absurd rfl (hs f caps)
  | rs j k x hs hg h =>
    have hj := blt_lt hc
    obtain ⟨g1, g2⟩ := B.gen hj hg
    refine .rs _ _ x hs g1 fun el sz ds foc ho => ?_
    obtain ⟨f0, h0⟩ := B.arr hj ho
    rw [g2]; exact h _ _ _ _ h0
  | agx cs vs hl h ha =>
    simp only [sLt1] at hc
    refine .agx _ vs (by simpa using hl) (fun i c x h1 h2 => ?_) (fun i c h1 => ?_)
    · rw [List.getElem?_map] at h1
      cases hk : cs[i]? with
      | none => rw [hk] at h1; simp at h1
      | some c0 => rw [hk] at h1; simp at h1; subst h1; exact (h i c0 x hk h2).back B (all_get hc hk)
    · rw [List.getElem?_map] at h1
      cases hk : cs[i]? with
      | none => rw [hk] at h1; simp at h1
      | some c0 => rw [hk] at h1; simp at h1; subst h1; rw [cBk_atom]; exact ha i c0 hk
  | tpx cs vs hl h ha =>
    simp only [sLt1] at hc
    refine .tpx _ vs (by simpa using hl) (fun i c x h1 h2 => ?_) (fun i c h1 => ?_)
    · rw [List.getElem?_map] at h1
      cases hk : cs[i]? with
      | none => rw [hk] at h1; simp at h1
      | some c0 => rw [hk] at h1; simp at h1; subst h1; exact (h i c0 x hk h2).back B (all_get hc hk)
    · rw [List.getElem?_map] at h1
      cases hk : cs[i]? with
      | none => rw [hk] at h1; simp at h1
      | some c0 => rw [hk] at h1; simp at h1; subst h1; rw [cBk_atom]; exact ha i c0 hk
  | pe j k n off x hg h =>
    have hj := blt_lt hc
    obtain ⟨g1, g2⟩ := B.gen hj hg
    refine .pe _ _ _ _ x g1 fun el sz ds foc ho => ?_
    obtain ⟨f0, h0⟩ := B.arr hj ho
    rw [g2]; exact h _ _ _ _ h0
  | ss j k lo x hg h =>
    have hj := blt_lt hc
    obtain ⟨g1, g2⟩ := B.gen hj hg
    refine .ss _ _ _ x g1 fun el sz ds foc ho => ?_
    obtain ⟨f0, h0⟩ := B.arr hj ho
    rw [g2]; exact h _ _ _ _ h0
  | mr j k x hs hg h =>
    have hj := blt_lt hc
    obtain ⟨g1, g2⟩ := B.gen hj hg
    refine .mr _ _ x hs g1 fun es ho => ?_
    rw [g2]; exact h _ (B.map hj ho)
  | xr j k x hs hg h =>
    have hj := blt_lt hc
    obtain ⟨g1, g2⟩ := B.gen hj hg
    refine .xr _ _ x hs g1 fun K cs ho => ?_
    obtain ⟨cs0, h0⟩ := B.ext hj ho
    rw [g2]; exact h _ _ h0
  | xf j k f x hg h =>
    have hj := blt_lt hc
    obtain ⟨g1, g2⟩ := B.gen hj hg
    refine .xf _ _ f x g1 fun K cs ho => ?_
    obtain ⟨cs0, h0⟩ := B.ext hj ho
    rw [g2]; exact h _ _ h0
theorem RepS.back (B : Back obj d off τ os Eo obj' E') {s : SV} {x : Value} (h : RepS Z w (objL os) Eo s x) (hc : sLt os.length s = true) : RepS Z w obj' E' (sBk obj d off τ s) x := by
  cases s with
  | fnr f caps =>
    cases h with
    | fnr _ _ vs hf hl h =>
      refine .fnr f _ vs hf (by simpa using hl) fun i c x h1 h2 => ?_
      rw [List.getElem?_map] at h1
      cases hk : caps[i]? with
      | none => rw [hk] at h1; simp at h1
      | some c0 =>
        rw [hk] at h1; simp at h1; subst h1
        have hn := all_get (show caps.all (sLt1 os.length) = true from hc) hk
        exact (h i c0 x hk h2).back1 B (fun f caps e => by rw [e] at hn; cases hn) hn
  | _ => exact h.back1 B (fun f caps e => nomatch e) hc
theorem cBk_bp {c : CV} {T : Nat} {f : Bool} (h : cBk obj d off τ c = .bp T f) : c = .bp T f := by
  cases c <;> simp [cBk, cBk1] at h ⊢ <;> exact h
theorem ObjOk.back (B : Back obj d off τ os Eo obj' E') {o : AObj} {e : Value} (h : ObjOk Z w (objL os) Eo e o) (hc : oLt os.length o = true) : ObjOk Z w obj' E' e (oBk obj d off τ o) := by
  cases o with
  | varx cs =>
    obtain ⟨b, el, arr, h1, h2, h3, h4, h5⟩ := h
    refine ⟨b, el, arr, h1, h2, by simpa using h3, fun j c hj => ?_, h5.1, h5.2.same fun j T f hj => ?_⟩
    rotate_left
    · rw [List.getElem?_map] at hj
      cases hk : cs[j]? with
      | none => rw [hk] at hj; simp at hj
      | some c0 => rw [hk] at hj; simp at hj; rw [cBk_bp hj]
    rw [List.getElem?_map] at hj
    cases hk : cs[j]? with
    | none => rw [hk] at hj; simp at hj
    | some c0 =>
      rw [hk] at hj; simp at hj; subst hj
      obtain ⟨q1, x, q2, q3⟩ := h4 j c0 hk
      exact ⟨by rw [cBk_atom]; exact q1, x, q2, q3.back B (all_get (show cs.all (cLt os.length) = true from hc) hk)⟩
  | arr el sz ds foc =>
    obtain ⟨xs, h1, h2, h3, h4, h5, h6⟩ := h
    cases foc with
    | none =>
      refine ⟨xs, h1, h2, h3, h4, fun i d hi hcx j c hj => ?_, h6⟩
      obtain ⟨q1, u, q2, q3⟩ := h5 i d hi hcx j c hj
      exact ⟨q1, u, q2, .cl (q3.closed (noRs_get (h3.2 i d hcx (fun _ _ h => nomatch h)) hj))⟩
    | some p =>
      obtain ⟨m, cs⟩ := p
      have hc' : cs.all (cLt os.length) = true := hc
      have hcx : ∀ k, cellX ds (some (m, cs.map (cBk obj d off τ))) k = if k = m then some (cs.map (cBk obj d off τ)) else ds[k]? := fun k => rfl
      have hcx0 : ∀ k, cellX ds (some (m, cs)) k = if k = m then some cs else ds[k]? := fun k => rfl
      refine ⟨xs, h1, h2, ⟨fun m' d' he => by cases he; exact h3.1 m cs rfl, fun i d' hd hne => h3.2 i d' hd fun m' d'' he => by cases he; exact hne m _ rfl⟩, fun i d' hi hc1 => ?_, fun i d' hi hc1 j c hj => ?_, h6⟩
      · rw [hcx] at hc1
        by_cases hk' : i = m
        · rw [if_pos hk'] at hc1
          cases hc1
          rw [List.length_map]; exact h4 i cs hi (by rw [hcx0, if_pos hk'])
        · rw [if_neg hk'] at hc1
          exact h4 i d' hi (by rw [hcx0, if_neg hk']; exact hc1)
      · rw [hcx] at hc1
        by_cases hk' : i = m
        · rw [if_pos hk'] at hc1
          cases hc1
          rw [List.getElem?_map] at hj
          cases hk : cs[j]? with
          | none => rw [hk] at hj; simp at hj
          | some c0 =>
            rw [hk] at hj; simp at hj; subst hj
            obtain ⟨q1, u, q2, q3⟩ := h5 i cs hi (by rw [hcx0, if_pos hk']) j c0 hk
            exact ⟨by rw [cBk_atom]; exact q1, u, q2, q3.back B (all_get hc' hk)⟩
        · rw [if_neg hk'] at hc1
          obtain ⟨q1, u, q2, q3⟩ := h5 i d' hi (by rw [hcx0, if_neg hk']; exact hc1) j c hj
          exact ⟨q1, u, q2, .cl (q3.closed (noRs_get (h3.2 i d' hc1 (fun m' d'' he => by cases he; exact hk')) hj))⟩
  | none => exact h
  | spent => exact h
  | var cs => exact h
  | ro cs => exact h
  | tok el sz => exact h
  | map es => exact h
  | lp l R q => exact h
  | ext K cs =>
    obtain ⟨us, h1, h2, h3⟩ := h
    refine ⟨us, by simpa using h1, fun j c hj => ?_, h3⟩
    rw [List.getElem?_map] at hj
    cases hk : cs[j]? with
    | none => rw [hk] at hj; simp at hj
    | some c0 =>
      rw [hk] at hj; simp at hj; subst hj
      obtain ⟨x, q2, q3⟩ := h2 j c0 hk
      exact ⟨x, q2, q3.back B (all_get (show cs.all (cLt os.length) = true from hc) hk)⟩
end

section
variable {P : Program} {G : World → Prop} {T : Tab} {Z0 : Base} {w0 : World} {S : Nat → Prop} {n : Nat} {Z : Zone} {E : Nat → Value} {st : St} {a : Act} {w : World}
theorem SameKind.back {o o0 o1 : AObj} {τ : List (Nat × Nat)} {obj : Objs} {d off : Nat} (h : SameKind o1 o) (hk : oTo τ (fun _ => 0) o0 = some o1) : SameKind o0 (oBk obj d off τ o) := by
  unfold oTo at hk
  split at hk
  · cases hc : csTo τ (fun _ => 0) _ with
    | none => rw [hc] at hk; simp at hk
    | some cs =>
      rw [hc] at hk; simp at hk; subst hk
      cases o with
      | arr el sz ds foc => simp [SameKind] at h
      | _ => first | trivial | (simp [SameKind] at h)
  · cases hc : csTo τ (fun _ => 0) _ with
    | none => rw [hc] at hk; simp at hk
    | some cs =>
      rw [hc] at hk; simp at hk; subst hk
      simp only [SameKind] at h
  · cases hc : csTo τ (fun _ => 0) _ with
    | none => rw [hc] at hk; simp at hk
    | some cs =>
      rw [hc] at hk; simp at hk; subst hk
      cases o with
      | arr el sz ds foc => cases foc <;> exact h
      | _ => simp [SameKind] at h
  · simp at hk; subst hk
    cases o with
    | arr el sz ds foc =>
      cases foc with
      | none => exact h
      | some p => obtain ⟨m, cs⟩ := p; cases o0 <;> first | exact h | (simp [SameKind] at h)
    | varx cs => cases o0 <;> first | trivial | (simp [SameKind] at h)
    | ext K cs => cases o0 <;> simp [SameKind] at h
    | _ => exact h
theorem eff_back {D off : Nat} {d : Option Nat} {τ : List (Nat × Nat)} {os os' : List (Nat × AObj)} {r : SV} (hI : Inv G Z0 w0 S n Z E st a w) (hd : inRange n d = true) (hos : osTo τ (fun _ => 0) st.obj 0 τ = some os)
    (hchk : (nodupS ((uBk st.obj D off τ 0 os').map (·.1)) && Nat.ble τ.length os'.length && sLt os'.length r && os'.all (fun o => oLt os'.length o.2)) = true) :
    ∃ Eo : Nat → Value, Match τ (fun _ => 0) st.obj E (objL os) Eo ∧ Grp Z w os Eo ∧ (∀ k, S k → SG w os Eo k) ∧ ∀ x Z' w' Eo', EffPost Z w os Eo Z' w' os' Eo' r x →
      ∃ E', Inv G Z0 w0 S n Z' E' ⟨put st.env d (sBk st.obj D off τ r), upd st.obj (uBk st.obj D off τ 0 os')⟩ (a.put d x) w' := by
  simp only [Bool.and_eq_true] at hchk
  obtain ⟨⟨⟨hnd, hlen⟩, hrlt⟩, hoslt⟩ := hchk
  have hlen := Nat.le_of_ble_eq_true hlen
  obtain ⟨hol, hoa⟩ := osTo_spec hos
  -- the caller's side
  let Eo : Nat → Value := fun j => match τ[j]? with | some (t, _) => E t | none => undef
  have hEo : ∀ j t g, τ[j]? = some (t, g) → Eo j = E t := fun j t g h => by simp only [Eo, h]
  have M : Match τ (fun _ => 0) st.obj E (objL os) Eo := ⟨fun j t g hj => by
    obtain ⟨h1, o', h2, h3⟩ := hoa j t g hj
    exact ⟨h1, o', h2, by unfold objL; rw [h3], hEo j t g hj⟩⟩
  have hsite : ∀ j, j < τ.length → bkS D off τ j = (τ[j]?.getD (0, 0)).1 := fun j hj => by
    unfold bkS; rw [List.getElem?_eq_getElem hj]; rfl
  have hinj : ∀ i j, i < os'.length → j < os'.length → bkS D off τ i = bkS D off τ j → i = j := fun i j hi hj he => by
    have h1 := uBk_sites (obj := st.obj) (d := D) (off := off) (τ := τ) os' 0 i hi
    have h2 := uBk_sites (obj := st.obj) (d := D) (off := off) (τ := τ) os' 0 j hj
    rw [Nat.zero_add] at h1 h2
    rw [he] at h1
    exact nodupS_spec hnd i j _ h1 h2
  have hbk : ∀ j t g, τ[j]? = some (t, g) → bkS D off τ j = t := fun j t g hj => by unfold bkS; rw [hj]
  have hjl : ∀ j t g, τ[j]? = some (t, g) → j < os'.length := fun j t g hj => Nat.lt_of_lt_of_le (List.getElem?_eq_some_iff.1 hj).1 hlen
  have hblk : ∀ j b, (objL os j).2.blk (Eo j) b → ∃ t g, τ[j]? = some (t, g) ∧ (st.obj t).2.blk (E t) b := fun j b hb => by
    cases hj : τ[j]? with
    | none =>
      have : os[j]? = none := List.getElem?_eq_none (by rw [hol]; exact List.getElem?_eq_none_iff.1 hj)
      unfold objL at hb
      rw [this] at hb
      simp [AObj.blk] at hb
    | some p =>
      obtain ⟨t, g⟩ := p
      obtain ⟨h1, o', h2, h3, h4⟩ := M.at_ j t g hj
      rw [h3, h4, oTo_blk h2] at hb
      exact ⟨t, g, rfl, hb⟩
  have hGS : ∀ k, S k → SG w os Eo k := fun k hk => ⟨hI.sltw k hk, fun ⟨j, hj⟩ => by
    obtain ⟨t, g, _, h2⟩ := hblk j k hj
    exact hI.own t k h2 hk⟩
  have hgrp : Grp Z w os Eo := by
    constructor
    · intro j
      cases hj : τ[j]? with
      | none =>
        have : os[j]? = none := List.getElem?_eq_none (by rw [hol]; exact List.getElem?_eq_none_iff.1 hj)
        unfold objL
        rw [this]
        trivial
      | some p =>
        obtain ⟨t, g⟩ := p
        obtain ⟨h1, o', h2, h3, h4⟩ := M.at_ j t g hj
        rw [h3, h4]
        exact (hI.obj t).to M h2
    · intro j j' b hne h1 h2
      obtain ⟨t, g, q1, q2⟩ := hblk j b h1
      obtain ⟨t', g', q3, q4⟩ := hblk j' b h2
      refine hI.apart t t' b (fun e => hne ?_) q2 q4
      exact hinj j j' (hjl j t g q1) (hjl j' t' g' q3) (by rw [hbk j t g q1, hbk j' t' g' q3, e])
  refine ⟨Eo, M, hgrp, hGS, fun x Z' w' Eo' hp => ?_⟩
  -- back
  let obj' := upd st.obj (uBk st.obj D off τ 0 os')
  let E' : Nat → Value := fun t => match (List.range os'.length).find? (fun j => bkS D off τ j == t) with | some j => Eo' j | none => E t
  have hE' : ∀ j, j < os'.length → E' (bkS D off τ j) = Eo' j := fun j hj => by
    simp only [E']
    cases hf : (List.range os'.length).find? (fun i => bkS D off τ i == bkS D off τ j) with
    | none =>
      rw [List.find?_eq_none] at hf
      exact absurd (by simp) (hf j (List.mem_range.2 hj))
    | some i =>
      have h1 := List.find?_some hf
      have h2 := List.mem_range.1 (List.mem_of_find?_eq_some hf)
      have : i = j := hinj i j h2 hj (by simpa using h1)
      rw [this]
  have hE'n : ∀ t, (∀ j, j < os'.length → t ≠ bkS D off τ j) → E' t = E t := fun t ht => by
    simp only [E']
    cases hf : (List.range os'.length).find? (fun i => bkS D off τ i == t) with
    | none => rfl
    | some i =>
      have h1 := List.find?_some hf
      have h2 := List.mem_range.1 (List.mem_of_find?_eq_some hf)
      exact absurd ((by simpa using h1 : bkS D off τ i = t).symm) (ht i h2)
  have hob : ∀ j g o1, os'[j]? = some (g, o1) → obj' (bkS D off τ j) = (bkG st.obj D off τ j g, oBk st.obj D off τ o1) := fun j g o1 hj => by
    have := upd_uBk_at (obj0 := st.obj) os' 0 j g o1 hnd hj
    rw [Nat.zero_add] at this
    exact this
  have hobn : ∀ t, (∀ j, j < os'.length → t ≠ bkS D off τ j) → obj' t = st.obj t := fun t ht => upd_uBk_ne os' 0 t (fun j hj => by rw [Nat.zero_add]; exact ht j hj)
  have B : Back st.obj D off τ os' Eo' obj' E' := ⟨fun j g o1 hj => ⟨hob j g o1 hj, hE' j (List.getElem?_eq_some_iff.1 hj).1⟩⟩
  have hget : ∀ j, j < os'.length → ∃ g o1, os'[j]? = some (g, o1) ∧ objL os' j = (g, o1) := fun j hj => ⟨os'[j].1, os'[j].2, List.getElem?_eq_getElem hj, by unfold objL; rw [List.getElem?_eq_getElem hj]⟩
  have hblk' : ∀ j, j < os'.length → ∀ b, (obj' (bkS D off τ j)).2.blk (E' (bkS D off τ j)) b → (objL os' j).2.blk (Eo' j) b := fun j hj b hb => by
    obtain ⟨g, o1, h1, h2⟩ := hget j hj
    rw [hob j g o1 h1, hE' j hj, oBk_blk] at hb
    rw [h2]; exact hb
  have hkS : Kept S w w' := hp.kept.mono hGS
  have hGB : ∀ t b, (∀ j, j < os'.length → t ≠ bkS D off τ j) → (st.obj t).2.blk (E t) b → ¬ GB os Eo b := fun t b ht hb ⟨j, hj⟩ => by
    obtain ⟨t', g', q1, q2⟩ := hblk j b hj
    exact hI.apart t t' b (fun e => ht j (hjl j t' g' q1) (by rw [hbk j t' g' q1, e])) hb q2
  have hGBS : ∀ b, GB os Eo b → ¬ S b := fun b hb hs => (hGS b hs).2 hb
  refine ⟨E', ?_⟩
  have hsame : ∀ t, (¬ ∃ j, j < os'.length ∧ t = bkS D off τ j) → obj' t = st.obj t ∧ E' t = E t := fun t ht => by
    have ht' : ∀ j, j < os'.length → t ≠ bkS D off τ j := fun j hj e => ht ⟨j, hj, e⟩
    exact ⟨hobn t ht', hE'n t ht'⟩
  refine hI.renewK (fun t => ∃ j, j < os'.length ∧ t = bkS D off τ j) hd hkS hp.keeps hp.zlt (fun b o1 hz => ?_) hsame (objKeep_mk3 _ hsame ?_) ?_ ?_ ?_ ?_ (hp.res.back B hrlt)
  · rcases hp.znew b o1 hz with h1 | h1 | h1
    · exact .inl h1
    · exact .inr (hI.fresh h1)
    · exact .inr (hGBS b h1)
  · rintro t ⟨j, hj, rfl⟩
    obtain ⟨g, o1, h1, h2⟩ := hget j hj
    have hnone : o1 ≠ .none := fun e => by
      have := List.all_eq_true.1 hoslt _ (List.mem_of_getElem? h1)
      rw [e] at this
      cases this
    show (st.obj (bkS D off τ j)).1 < (obj' (bkS D off τ j)).1 ∨ ((obj' (bkS D off τ j)).1 = (st.obj (bkS D off τ j)).1 ∧ (AObj.still (obj' (bkS D off τ j)).2 ∨ (E' (bkS D off τ j) = E (bkS D off τ j) ∧ SameKind (st.obj (bkS D off τ j)).2 (obj' (bkS D off τ j)).2) ∨ (face (E' (bkS D off τ j)) = face (E (bkS D off τ j)) ∧ ExtKind (st.obj (bkS D off τ j)).2 (obj' (bkS D off τ j)).2)))
    rw [hob j g o1 h1]
    cases hτ : τ[j]? with
    | some p =>
      obtain ⟨t, g0⟩ := p
      obtain ⟨q1, o0, q2, q3, q4⟩ := M.at_ j t g0 hτ
      have hb := hbk j t g0 hτ
      rw [hb]
      have hG : bkG st.obj D off τ j g = g0 + g := by unfold bkG; rw [hτ]
      simp only [hG, q1]
      cases g with
      | succ g => exact .inl (by omega)
      | zero =>
        refine .inr ⟨rfl, ?_⟩
        have hEt : E' t = Eo' j := by rw [← hb]; exact hE' j hj
        have hg0 : (0 : Nat) ≤ (objL os j).1 := Nat.zero_le _
        have fin : SameKind o0 o1 → Eo' j = Eo j → (AObj.still (oBk st.obj D off τ o1) ∨ (E' t = E t ∧ SameKind (st.obj t).2 (oBk st.obj D off τ o1)) ∨ (face (E' t) = face (E t) ∧ ExtKind (st.obj t).2 (oBk st.obj D off τ o1))) := fun hk he => .inr (.inl ⟨by rw [hEt, he, q4], hk.back q2⟩)
        have hv : ∀ cs, (o1 = .var cs ∨ o1 = .ro cs ∨ o1 = .varx cs) → (AObj.still (oBk st.obj D off τ o1) ∨ (E' t = E t ∧ SameKind (st.obj t).2 (oBk st.obj D off τ o1)) ∨ (face (E' t) = face (E t) ∧ ExtKind (st.obj t).2 (oBk st.obj D off τ o1))) := fun cs ho1 => by
          obtain ⟨⟨cs0, hl⟩, he⟩ := hp.ok.var j 0 hg0 ⟨cs, by rw [h2]; simpa using ho1⟩
          rw [q3] at hl
          simp only [Prod.mk.injEq, true_and] at hl
          refine fin ?_ he
          rcases hl with rfl | rfl | rfl <;> rcases ho1 with rfl | rfl | rfl <;> trivial
        cases o1 with
        | none => exact absurd rfl hnone
        | spent => exact .inl (.inl rfl)
        | lp l R q => exact .inl (.inr ⟨_, _, _, rfl⟩)
        | var cs => exact hv cs (.inl rfl)
        | ro cs => exact hv cs (.inr (.inl rfl))
        | varx cs => exact hv cs (.inr (.inr rfl))
        | tok el sz =>
          obtain ⟨hl, he⟩ := hp.ok.tok j 0 el sz hg0 h2
          rw [q3] at hl
          simp only [Prod.mk.injEq, true_and] at hl
          subst hl
          exact fin ⟨rfl, rfl⟩ he
        | arr el sz ds foc =>
          obtain ⟨⟨ds0, foc0, hl⟩, he⟩ := hp.ok.arr j 0 el sz ds foc hg0 h2
          rw [q3] at hl
          simp only [Prod.mk.injEq, true_and] at hl
          subst hl
          exact fin ⟨rfl, rfl⟩ he
        | map es =>
          obtain ⟨⟨es0, hl⟩, he⟩ := hp.ok.map j 0 es hg0 h2
          rw [q3] at hl
          simp only [Prod.mk.injEq, true_and] at hl
          subst hl
          exact fin trivial he
        | ext K cs =>
          obtain ⟨⟨K0, cs0, hl⟩, he⟩ := hp.ok.ext j 0 K cs hg0 h2
          rw [q3] at hl
          simp only [Prod.mk.injEq, true_and] at hl
          obtain ⟨cs1, h3⟩ := oTo_ext q2 hl
          exact .inr (.inr ⟨by rw [hEt, he, q4], ⟨K0, cs1, K, _, h3, rfl⟩⟩)
    | none =>
      have hG : bkG st.obj D off τ j g = (st.obj (bkS D off τ j)).1 + g := by unfold bkG bkS; rw [hτ]
      simp only [hG]
      cases g with
      | succ g => exact .inl (by omega)
      | zero =>
        refine .inr ⟨rfl, .inl ?_⟩
        have hoj : objL os j = (0, .none) := by
          have : os[j]? = none := List.getElem?_eq_none (by rw [hol]; exact List.getElem?_eq_none_iff.1 hτ)
          unfold objL; rw [this]
        have hg0 : (0 : Nat) ≤ (objL os j).1 := Nat.zero_le _
        have hv : ∀ cs, ¬ (o1 = .var cs ∨ o1 = .ro cs ∨ o1 = .varx cs) := fun cs ho1 => by
          obtain ⟨⟨cs0, hl⟩, _⟩ := hp.ok.var j 0 hg0 ⟨cs, by rw [h2]; simpa using ho1⟩
          rw [hoj] at hl
          simp at hl
        cases o1 with
        | none => exact absurd rfl hnone
        | spent => exact .inl rfl
        | lp l R q => exact .inr ⟨_, _, _, rfl⟩
        | var cs => exact absurd (.inl rfl) (hv cs)
        | ro cs => exact absurd (.inr (.inl rfl)) (hv cs)
        | varx cs => exact absurd (.inr (.inr rfl)) (hv cs)
        | tok el sz => obtain ⟨hl, _⟩ := hp.ok.tok j 0 el sz hg0 h2; rw [hoj] at hl; simp at hl
        | arr el sz ds foc => obtain ⟨⟨ds0, foc0, hl⟩, _⟩ := hp.ok.arr j 0 el sz ds foc hg0 h2; rw [hoj] at hl; simp at hl
        | map es => obtain ⟨⟨es0, hl⟩, _⟩ := hp.ok.map j 0 es hg0 h2; rw [hoj] at hl; simp at hl
        | ext K cs => obtain ⟨⟨K0, cs0, hl⟩, _⟩ := hp.ok.ext j 0 K cs hg0 h2; rw [hoj] at hl; simp at hl
  · rintro _ t ⟨j, hj, rfl⟩
    obtain ⟨g, o1, h1, h2⟩ := hget j hj
    show ObjOk Z' w' obj' E' (E' _) (obj' _).2
    rw [hob j g o1 h1, hE' j hj]
    have := hp.grp.ok j
    rw [h2] at this
    exact this.back B (List.all_eq_true.1 hoslt _ (List.mem_of_getElem? h1))
  · intro t ht b hb
    have ht' : ∀ j, j < os'.length → t ≠ bkS D off τ j := fun j hj e => ht ⟨j, hj, e⟩
    have hlt := (hI.obj t).lt hb
    have hng := hGB t b ht' hb
    refine ⟨hp.kept.block b ⟨hlt, hng⟩, fun k hz => ?_, ?_⟩
    · rcases hp.znew b k hz with h1 | h1 | h1
      · exact h1
      · omega
      · exact absurd h1 hng
    · rintro s ⟨j, hj, rfl⟩ hb'
      rcases hp.own b ⟨j, hblk' j hj b hb'⟩ with h1 | h1
      · omega
      · exact hng h1
  · rintro t t' b ⟨j, hj, rfl⟩ ⟨j', hj', rfl⟩ hne h1 h2
    exact hp.grp.apart j j' b (fun e => hne (by rw [e])) (hblk' j hj b h1) (hblk' j' hj' b h2)
  · rintro t ⟨j, hj, rfl⟩ b hb
    rcases hp.own b ⟨j, hblk' j hj b hb⟩ with h1 | h1
    · exact hI.fresh h1
    · exact hGBS b h1

theorem upd_peek {D off : Nat} {τ : List (Nat × Nat)} {obj : Objs} : ∀ (os : List (Nat × AObj)) (k : Nat), (∀ (j : Nat) (x : Nat × AObj), os[j]? = some x → ∃ t g, τ[k + j]? = some (t, g) ∧ (obj t).1 = g ∧ ∃ K, x = (0, .ext K []) ∧ (obj t).2 = .ext K []) → upd obj (uBk obj D off τ k os) = obj
  | [], _, _ => rfl
  | (g, o) :: r, k, h => by
    obtain ⟨t, g', h1, h2, K, h3, h4⟩ := h 0 _ rfl
    obtain ⟨rfl, rfl⟩ := Prod.mk.inj h3
    have ih := upd_peek (D := D) (off := off) (τ := τ) (obj := obj) r (k + 1) fun j x hx => by
      have := h (j + 1) x hx
      rw [Nat.add_assoc, Nat.add_comm 1 j]; exact this
    rw [Nat.add_zero] at h1
    have e1 : bkS D off τ k = t := by unfold bkS; rw [h1]
    have e2 : bkG obj D off τ k 0 = g' := by unfold bkG; rw [h1]; rfl
    funext s
    simp only [uBk, upd, ih, e1, e2]
    cases hs : Nat.beq t s with
    | false => rfl
    | true =>
      have := Nat.eq_of_beq_eq_true hs
      subst this
      have : obj t = (g', .ext K []) := by rw [← h2, ← h4]
      rw [cond_true, this]
      rfl
theorem csTo_nil {τ : List (Nat × Nat)} {γ : Nat → Nat} : ∀ {cs : List CV}, csTo τ γ cs = some [] → cs = []
  | [], _ => rfl
  | c :: r, h => by
    simp only [csTo] at h
    split at h <;> simp at h
theorem upd_peek0 {D off : Nat} {τ : List (Nat × Nat)} {obj : Objs} {os : List (Nat × AObj)} (hos : osTo τ (fun _ => 0) obj 0 τ = some os) (hp : peekOk os = true) : upd obj (uBk obj D off τ 0 os) = obj := by
  obtain ⟨hl, ha⟩ := osTo_spec hos
  refine upd_peek os 0 fun j x hx => ?_
  have hj : j < τ.length := by rw [← hl]; exact (List.getElem?_eq_some_iff.1 hx).1
  obtain ⟨h1, o', h2, h3⟩ := ha j τ[j].1 τ[j].2 (List.getElem?_eq_getElem hj)
  rw [hx] at h3
  obtain rfl := Option.some.inj h3
  have hq := List.all_eq_true.1 hp _ (List.mem_of_getElem? hx)
  refine ⟨_, _, by rw [Nat.zero_add]; exact List.getElem?_eq_getElem hj, h1, ?_⟩
  cases o' with
  | ext K cs =>
    cases cs with
    | nil =>
      refine ⟨K, rfl, ?_⟩
      generalize (obj τ[j].1).2 = o at h2
      cases o with
      | ext K2 cs2 =>
        simp only [oTo, Option.map_eq_some_iff] at h2
        obtain ⟨cs3, h5, h6⟩ := h2
        injection h6 with h6 h7
        subst h6; subst h7
        rw [csTo_nil h5]
      | arr el sz ds foc => cases foc with
        | none => simp [oTo] at h2
        | some p => obtain ⟨m, cs⟩ := p; simp [oTo] at h2
      | varx cs => simp [oTo] at h2
      | _ => simp [oTo] at h2
    | cons c r => simp at hq
  | _ => simp at hq
theorem eff_sound (o : Oper) {K : KOp} {next : Act → World → Prop} {Q : Exit → Act → World → Prop} (hI : Inv G Z0 w0 S n Z E st a w) (hd : inRange n o.dst = true) (h : wpEff (orc P G) (look st) st.obj o.dst o.op o.type K)
    (hn : ∀ r rd u Z' E' x w', K r rd u → Inv G Z0 w0 S n Z' E' ⟨put st.env o.dst r, upd st.obj u⟩ (a.put o.dst x) w' → next (a.put o.dst x) w') : Oper.wpE P o a w next Q := by
  obtain ⟨τ, off, args, os, r, os', hargs, hos, heff, hchk, hK⟩ := h
  obtain ⟨Eo, M, hgrp, hGS, hback⟩ := eff_back (d := o.dst) hI hd hos hchk
  obtain ⟨hal, hag⟩ := ssTo_spec hargs
  refine heff Z w Eo a o next Q rfl rfl hgrp hI.zlt (by simpa using hal) (fun i s x h1 h2 => ?_) (fun w' hk => hI.gs w' (hI.below.trans (hk.mono hGS))) fun x Z' w' Eo' hp => (hback x Z' w' Eo' hp).elim fun E' hI' => hn _ _ _ Z' E' x w' hK ?_
  rotate_left
  · cases hc : (Nat.beq off 7777 && peekOk os) with
    | false => exact hI'
    | true =>
      rw [Bool.and_eq_true] at hc
      have e : peekO off os os' = os := by unfold peekO; rw [hc.1]; rfl
      rw [e, upd_peek0 hos hc.2] at hI'
      exact hI'
  · obtain ⟨s0, h3, h4⟩ := hag i s h1
    rw [List.getElem?_map] at h3
    have h5 : o.op.operands.toList[i]? = some x := by simpa using h2
    rw [h5] at h3
    simp at h3
    subst h3
    exact (look_rep hI x).to M h4

/-- All rules together. -/
theorem o_sound2 (hT : TOk P T) (o : Oper) (Z0 : Base) (w0 : World) (S : Nat → Prop) (n : Nat) (Z : Zone) (E : Nat → Value) (st : St) (a : Act) (w : World) (K : KOp) (next : Act → World → Prop) (Q : Exit → Act → World → Prop)
    (hI : Inv G Z0 w0 S n Z E st a w) (hd : inRange n o.dst = true) (h : wpO2 (orc P G) T (look st) st.obj o.dst o.op o.type K)
    (hn : ∀ r rd u Z' E' x w', K r rd u → Inv G Z0 w0 S n Z' E' ⟨put st.env o.dst r, upd st.obj u⟩ (a.put o.dst x) w' → next (a.put o.dst x) w') : Oper.wpE P o a w next Q :=
  h.elim (fun h => op_sound hT o Z0 w0 S n Z E st a w K next Q _ hI hd h (fun hx => x_sound hT o Z0 w0 S n Z E st a w K next Q hI hd hx hn) hn) (fun h => eff_sound o hI hd h hn)
theorem o_sound (hT : TOk P T) (o : Oper) (Z0 : Base) (w0 : World) (S : Nat → Prop) (n : Nat) (Z : Zone) (E : Nat → Value) (st : St) (a : Act) (w : World) (K : KOp) (next : Act → World → Prop) (Q : Exit → Act → World → Prop)
    (hI : Inv G Z0 w0 S n Z E st a w) (hd : inRange n o.dst = true) (h : wpO (orc P G) T (look st) st.obj o.dst o.op o.type K)
    (hn : ∀ r rd u Z' E' x w', K r rd u → Inv G Z0 w0 S n Z' E' ⟨put st.env o.dst r, upd st.obj u⟩ (a.put o.dst x) w' → next (a.put o.dst x) w') : Oper.wpE P o a w next Q :=
  by
  have h0 : wpO0 (orc P G) T (look st) st.obj o.dst o.op o.type K → Oper.wpE P o a w next Q := fun h =>
    op_sound hT o Z0 w0 S n Z E st a w K next Q _ hI hd h (fun hx => hx.elim (fun hx => x_sound hT o Z0 w0 S n Z E st a w K next Q hI hd hx hn) (fun hx => eff_sound o hI hd hx hn)) hn
  unfold wpO at h
  cases hb : effFirst o.op with
  | true => rw [hb] at h; exact h.elim h0 (fun hx => eff_sound o hI hd hx hn)
  | false => rw [hb] at h; exact h0 h
end
end Go.Abs
