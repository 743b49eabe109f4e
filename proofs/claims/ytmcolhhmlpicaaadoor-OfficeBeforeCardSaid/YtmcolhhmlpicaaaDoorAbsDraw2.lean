/-
  Soundness: a region that draws its order, the theorem.
-/
import Derived.Test.YtmcolhhmlpicaaaDoorAbsDraw
namespace Go.Abs
open Go Go.RowKit

/-- The state in which just the operations in S have been carried out. -/
def stUp (ops : List Oper) (tr : List Ent) (S : Nat → Bool) (st0 : St) : Nat → St
  | 0 => st0
  | m + 1 => match ops[m]?, tr[m]? with
    | some o, some e => bif S m then stepSt (stUp ops tr S st0 m) o e else stUp ops tr S st0 m
    | _, _ => stUp ops tr S st0 m

def ClosedS (ops : List Oper) (S : Nat → Bool) : Prop := ∀ k o e, ops[k]? = some o → S k = true → e ∈ o.after → Region.binds .any e = true → S e.on = true

section before
variable {ops : List Oper}
theorem mask_fold (acc : Array Nat) (i : Nat) : ∀ (es : List Edge) (s : Nat), (es.foldl (fun s e => if Region.binds .any e then s ||| 2 ^ e.on ||| acc.getD e.on 0 else s) s).testBit i = true →
    s.testBit i = true ∨ ∃ e ∈ es, Region.binds .any e = true ∧ (e.on = i ∨ (acc.getD e.on 0).testBit i = true)
  | [], s, h => .inl h
  | e :: es, s, h => by
    simp only [List.foldl_cons] at h
    rcases mask_fold acc i es _ h with h1 | ⟨e', he', h2⟩
    · split at h1
      · rename_i hb
        simp only [Nat.testBit_or, Bool.or_eq_true] at h1
        rcases h1 with (h1 | h1) | h1
        · exact .inl h1
        · exact .inr ⟨e, by simp, hb, .inl (by rw [Nat.testBit_two_pow] at h1; simpa using h1)⟩
        · exact .inr ⟨e, by simp, hb, .inr h1⟩
      · exact .inl h1
    · exact .inr ⟨e', by simp [he'], h2⟩
theorem before_fold (S : Nat → Bool) (hS : ClosedS ops S) : ∀ (l : List Oper) (acc : Array Nat), (∀ j, l[j]? = ops[acc.size + j]?) →
    (∀ k i, (acc.getD k 0).testBit i = true → S k = true → S i = true) →
    ∀ k i, ((l.foldl (fun acc o => acc.push (o.after.foldl (fun s e => if Region.binds .any e then s ||| 2 ^ e.on ||| acc.getD e.on 0 else s) 0)) acc).getD k 0).testBit i = true → S k = true → S i = true
  | [], acc, _, h => h
  | o :: l, acc, hl, h => by
    simp only [List.foldl_cons]
    refine before_fold S hS l _ (fun j => ?_) ?_
    · have := hl (j + 1)
      simp only [List.getElem?_cons_succ] at this
      rw [this, Array.size_push]
      congr 1
      omega
    · intro k i hb hk
      rcases Nat.lt_trichotomy k acc.size with hlt | heq | hgt
      · rw [Array.getD_eq_getD_getElem?, Array.getElem?_push, if_neg (by omega), ← Array.getD_eq_getD_getElem?] at hb
        exact h k i hb hk
      · subst heq
        rw [Array.getD_eq_getD_getElem?, Array.getElem?_push, if_pos rfl] at hb
        simp only [Option.getD_some] at hb
        rw [← Array.foldl_toList] at hb
        rcases mask_fold acc i _ _ hb with h1 | ⟨e, he, hbi, h2⟩
        · simp at h1
        · have ho : ops[acc.size]? = some o := by have := hl 0; simpa using this.symm
          have hon := hS _ o e ho hk (by simpa using he) hbi
          rcases h2 with rfl | h2
          · exact hon
          · exact h _ i h2 hon
      · rw [Array.getD_eq_getD_getElem?, Array.getElem?_eq_none (by simp; omega)] at hb
        simp at hb
theorem before_closed {S : Nat → Bool} (hS : ClosedS ops S) {k i : Nat} (h : ((Region.before ops.toArray).getD k 0).testBit i = true) (hk : S k = true) : S i = true := by
  unfold Region.before at h
  rw [← Array.foldl_toList] at h
  exact before_fold S hS ops #[] (fun j => by simp) (fun k i hb _ => by simp at hb) k i h hk
end before

theorem row_spec (ops : Array Oper) (mask : Nat) (ok : Oper) (ek : Ent) : ∀ (l : List (Oper × Ent)) (i0 : Nat), noConfRow ops mask ok ek i0 l = true → ∀ j oi ei, l[j]? = some (oi, ei) → mask.testBit (i0 + j) = true ∨ apartE ops oi ok ei ek = true
  | [], _, _, j, oi, ei, h => by simp at h
  | (o, e) :: l, i0, h, j, oi, ei, hj => by
    simp only [noConfRow] at h
    cases hb : (mask.testBit i0 || apartE ops o ok e ek) with
    | false => rw [hb] at h; simp at h
    | true =>
      rw [hb] at h
      simp only [cond_true] at h
      cases j with
      | zero =>
        simp at hj
        obtain ⟨rfl, rfl⟩ := hj
        simpa using hb
      | succ j =>
        have := row_spec ops mask ok ek l (i0 + 1) h j oi ei (by simpa using hj)
        rwa [show i0 + 1 + j = i0 + (j + 1) from by omega] at this
theorem go_spec (ops : Array Oper) : ∀ (l done : List (Oper × Ent)) (ms : List Nat), noConfGo ops ms done l = true → ∀ j ok ek, l[j]? = some (ok, ek) → ∀ i oi ei, i < done.length + j → (done ++ l)[i]? = some (oi, ei) →
    (ms.getD j 0).testBit i = true ∨ apartE ops oi ok ei ek = true
  | [], _, _, _, j, _, _, h => by simp at h
  | (o, e) :: l, done, ms, h, j, ok, ek, hj => by
    cases ms with
    | nil => simp [noConfGo] at h
    | cons m ms =>
      simp only [noConfGo] at h
      cases hb : noConfRow ops m o e 0 done with
      | false => rw [hb] at h; simp at h
      | true =>
        rw [hb] at h
        simp only [cond_true] at h
        intro i oi ei hi hd
        cases j with
        | zero =>
          simp at hj
          obtain ⟨rfl, rfl⟩ := hj
          rw [List.getElem?_append_left (by omega)] at hd
          have := row_spec ops m o e done 0 hb i oi ei hd
          simpa using this
        | succ j =>
          have := go_spec ops l (done ++ [(o, e)]) ms h j ok ek (by simpa using hj) i oi ei (by simp; omega) (by simpa using hd)
          simpa using this

theorem conf_spec {ops : List Oper} {tr : List Ent} (h : noConf ops tr = true) {i k : Nat} {oi ok : Oper} {ei ek : Ent} (hik : i < k) (hoi : ops[i]? = some oi) (hok : ops[k]? = some ok) (hei : tr[i]? = some ei) (hek : tr[k]? = some ek) :
    ((Region.before ops.toArray).getD k 0).testBit i = true ∨ apartE ops.toArray oi ok ei ek = true := by
  unfold noConf at h
  simp only [Bool.and_eq_true] at h
  have hz : ∀ j o e, ops[j]? = some o → tr[j]? = some e → (ops.zip tr)[j]? = some (o, e) := fun j o e h1 h2 => by rw [List.getElem?_zip_eq_some]; exact ⟨h1, h2⟩
  have := go_spec ops.toArray (ops.zip tr) [] _ h.1 k ok ek (hz k ok ek hok hek) i oi ei (by simpa using hik) (by simpa using hz i oi ei hoi hei)
  rw [List.getD_eq_getElem?_getD, Array.getElem?_toList, ← Array.getD_eq_getD_getElem?] at this
  exact this

theorem memN_iff (x : Nat) : ∀ (l : List Nat), memN x l = true ↔ x ∈ l
  | [] => by simp [memN]
  | y :: r => by
    simp only [memN, List.mem_cons]
    cases hb : Nat.beq x y with
    | true => have := Nat.eq_of_beq_eq_true hb; simp [this]
    | false =>
      have hne : x ≠ y := fun e => by subst e; simp at hb
      simp only [cond_false, memN_iff x r, hne, false_or]
theorem disj_spec : ∀ (l m : List Nat), disj l m = true → ∀ x ∈ l, x ∉ m
  | [], _, _, x, hx => by simp at hx
  | y :: r, m, h, x, hx => by
    simp only [disj] at h
    cases hb : memN y m with
    | true => rw [hb] at h; simp at h
    | false =>
      rw [hb] at h
      simp only [cond_false] at h
      simp only [List.mem_cons] at hx
      rcases hx with rfl | hx
      · intro hm; rw [← memN_iff] at hm; rw [hm] at hb; cases hb
      · exact disj_spec r m h x hx

section
variable {ops : List Oper} {tr : List Ent} {st0 : St} {S : Nat → Bool}

theorem upd_not_mem (obj : Objs) : ∀ (u : Upd) (s : Nat), s ∉ u.map (·.1) → upd obj u s = obj s
  | [], _, _ => rfl
  | (k, x) :: r, s, h => by
    simp only [List.map_cons, List.mem_cons, not_or] at h
    simp only [upd]
    cases hb : Nat.beq k s with
    | true => exact absurd (Nat.eq_of_beq_eq_true hb).symm h.1
    | false => exact upd_not_mem obj r s h.2
theorem upd_mem (obj obj' : Objs) : ∀ (u : Upd) (s : Nat), s ∈ u.map (·.1) → upd obj u s = upd obj' u s
  | [], _, h => by simp at h
  | (k, x) :: r, s, h => by
    simp only [upd]
    cases hb : Nat.beq k s with
    | true => rfl
    | false =>
      simp only [List.map_cons, List.mem_cons] at h
      rcases h with rfl | h
      · simp at hb
      · exact upd_mem obj obj' r s h
theorem put_ne (env : Nat → SV) {d : Option Nat} (r : SV) {t : Nat} (h : d ≠ some t) : put env d r t = env t := by
  cases d with
  | none => rfl
  | some d =>
    simp only [put]
    cases hb : Nat.beq d t with
    | true => exact absurd (by rw [Nat.eq_of_beq_eq_true hb]) h
    | false => rfl
theorem put_eq (env : Nat → SV) (r : SV) (t : Nat) : put env (some t) r t = r := by simp [put]

/-- A slot that is written by no operation in which S and S' part reads alike. -/
theorem up_env {S S' : Nat → Bool} {t : Nat} : ∀ (m : Nat), (∀ k o, k < m → ops[k]? = some o → o.dst = some t → S k = S' k) → (stUp ops tr S st0 m).env t = (stUp ops tr S' st0 m).env t
  | 0, _ => rfl
  | m + 1, h => by
    have ih := up_env m (fun k o hk ho hd => h k o (by omega) ho hd)
    simp only [stUp]
    cases ho : ops[m]? with
    | none => exact ih
    | some o =>
      cases he : tr[m]? with
      | none => exact ih
      | some e =>
        simp only
        by_cases hd : o.dst = some t
        · rw [h m o (by omega) ho hd]
          cases S' m with
          | true => simp only [cond_true, stepSt, hd, put_eq]
          | false => exact ih
        · have h1 : ∀ st : St, (stepSt st o e).env t = st.env t := fun st => put_ne _ _ hd
          cases S m <;> cases S' m <;> simp only [cond_true, cond_false, h1, ih]
theorem up_obj {S S' : Nat → Bool} {s : Nat} : ∀ (m : Nat), (∀ k e, k < m → tr[k]? = some e → s ∈ e.sites → S k = S' k) → (stUp ops tr S st0 m).obj s = (stUp ops tr S' st0 m).obj s
  | 0, _ => rfl
  | m + 1, h => by
    have ih := up_obj m (fun k e hk he hs => h k e (by omega) he hs)
    simp only [stUp]
    cases ho : ops[m]? with
    | none => exact ih
    | some o =>
      cases he : tr[m]? with
      | none => exact ih
      | some e =>
        simp only
        by_cases hs : s ∈ e.sites
        · rw [h m e (by omega) he hs]
          cases S' m with
          | true => simp only [cond_true, stepSt]; exact upd_mem _ _ _ _ hs
          | false => exact ih
        · have h1 : ∀ st : St, (stepSt st o e).obj s = st.obj s := fun st => upd_not_mem _ _ _ hs
          cases S m <;> cases S' m <;> simp only [cond_true, cond_false, h1, ih]
/-- Cut off at i. -/
theorem up_cut (i : Nat) : ∀ (m : Nat), i ≤ m → stUp ops tr (fun k => decide (k < i)) st0 m = stUp ops tr (fun _ => true) st0 i := by
  intro m hm
  induction m with
  | zero => have : i = 0 := by omega
            subst this; rfl
  | succ m ih =>
    by_cases h : i = m + 1
    · subst h
      have : ∀ q, q ≤ m + 1 → stUp ops tr (fun k => decide (k < m + 1)) st0 q = stUp ops tr (fun _ => true) st0 q := by
        intro q
        induction q with
        | zero => intro _; rfl
        | succ q ihq =>
          intro hq
          simp only [stUp, ihq (by omega)]
          have : decide (q < m + 1) = true := by simp; omega
          rw [this]
      exact this _ (Nat.le_refl _)
    · rw [← ih (by omega)]
      simp only [stUp]
      have : decide (m < i) = false := by simp; omega
      rw [this]
      split <;> rfl
end

section
variable {P : Program} {G : World → Prop} {T : Tab} {Z0 : Base} {w0 : World} {S : Nat → Prop} {n : Nat} {ops : List Oper} {tr : List Ent} {st0 : St}

theorem looks_mem {x : Operand} {o : Oper} {t : Nat} (h : x ∈ o.op.operands) (hx : x = .tmp t) : t ∈ o.looksAt ops.toArray := by
  unfold Oper.looksAt
  rw [List.mem_append]
  left
  rw [List.mem_filterMap]
  exact ⟨x, by simpa using h, by rw [hx]⟩
theorem looks_guard {o : Oper} {j : Nat} {want : Bool} {dj : Nat} (hg : o.guard = some (j, want)) (hd : (ops[j]?).bind (·.dst) = some dj) : dj ∈ o.looksAt ops.toArray := by
  unfold Oper.looksAt
  rw [List.mem_append]
  right
  simp [hg, hd]

/-- What an operation looks at, it finds as in the text's order, whatever has been carried out so far. -/
theorem agree (hlen : tr.length = ops.length) (hc : noConf ops tr = true) {S : Nat → Bool} (hS : ClosedS ops S) {i : Nat} {o : Oper} {e : Ent} (hoi : ops[i]? = some o) (hei : tr[i]? = some e) (hi : S i = false)
    (hready : ∀ ed ∈ o.after, Region.binds .any ed = true → S ed.on = true) :
    (∀ t, t ∈ o.looksAt ops.toArray → (stUp ops tr S st0 ops.length).env t = (stUp ops tr (fun _ => true) st0 i).env t) ∧
    (∀ s, (s ∈ e.rd ∨ s ∈ e.sites) → (stUp ops tr S st0 ops.length).obj s = (stUp ops tr (fun _ => true) st0 i).obj s) ∧
    (∀ k ok ek, i < k → ops[k]? = some ok → tr[k]? = some ek → S k = true → ok.dst = none ∨ ok.dst ≠ o.dst) ∧
    (∀ k ek s, i < k → tr[k]? = some ek → S k = true → s ∈ e.sites → s ∉ ek.sites) := by
  have hlt : i < ops.length := (List.getElem?_eq_some_iff.1 hoi).1
  -- S with i added is closed too
  have hS' : ClosedS ops (fun k => S k || decide (k = i)) := by
    intro k o' ed ho' hk hed hb
    simp only [Bool.or_eq_true, decide_eq_true_eq] at hk ⊢
    rcases hk with hk | rfl
    · exact .inl (hS k o' ed ho' hk hed hb)
    · rw [hoi] at ho'
      injection ho' with ho'
      subst ho'
      exact .inl (hready ed hed hb)
  have before : ∀ k, k < i → ((Region.before ops.toArray).getD i 0).testBit k = true → S k = true := by
    intro k hk hb
    have := before_closed hS' hb (by simp)
    simp only [Bool.or_eq_true, decide_eq_true_eq] at this
    exact this.resolve_right (by omega)
  have behind : ∀ k, ((Region.before ops.toArray).getD k 0).testBit i = true → S k = false := by
    intro k hb
    cases hk : S k with
    | false => rfl
    | true => have := before_closed hS hb hk; rw [hi] at this; cases this
  have get : ∀ k ok, ops[k]? = some ok → ∃ ek, tr[k]? = some ek := fun k ok hk => by
    have : k < tr.length := by rw [hlen]; exact (List.getElem?_eq_some_iff.1 hk).1
    exact ⟨_, List.getElem?_eq_getElem this⟩
  have get' : ∀ k ek, tr[k]? = some ek → ∃ ok, ops[k]? = some ok := fun k ek hk => by
    have : k < ops.length := by rw [← hlen]; exact (List.getElem?_eq_some_iff.1 hk).1
    exact ⟨_, List.getElem?_eq_getElem this⟩
  refine ⟨fun t ht => ?_, fun s hs => ?_, ?_, ?_⟩
  · rw [← up_cut i ops.length (by omega)]
    refine up_env _ fun k ok hk hok hd => ?_
    obtain ⟨ek, hek⟩ := get k ok hok
    rcases Nat.lt_trichotomy k i with hlt' | heq | hgt
    · simp only [hlt', decide_true]
      rcases conf_spec hc hlt' hok hoi hek hei with h | h
      · exact before k hlt' h
      · simp only [apartE, Bool.and_eq_true] at h
        exact absurd ht ((Oper.apart_spec h.1.1).1 t hd)
    · subst heq; simp [hi]
    · have : decide (k < i) = false := by simp; omega
      rw [this]
      rcases conf_spec hc hgt hoi hok hei hek with h | h
      · exact behind k h
      · simp only [apartE, Bool.and_eq_true] at h
        exact absurd ht ((Oper.apart_spec h.1.1).2.2 t hd)
  · rw [← up_cut i ops.length (by omega)]
    refine up_obj _ fun k ek hk hek hsk => ?_
    obtain ⟨ok, hok⟩ := get' k ek hek
    rcases Nat.lt_trichotomy k i with hlt' | heq | hgt
    · simp only [hlt', decide_true]
      rcases conf_spec hc hlt' hok hoi hek hei with h | h
      · exact before k hlt' h
      · simp only [apartE, Bool.and_eq_true] at h
        have := disj_spec _ _ h.1.2 s hsk
        rw [List.mem_append, not_or] at this
        exact absurd hs (not_or.2 this)
    · subst heq; simp [hi]
    · have : decide (k < i) = false := by simp; omega
      rw [this]
      rcases conf_spec hc hgt hoi hok hei hek with h | h
      · exact behind k h
      · simp only [apartE, Bool.and_eq_true] at h
        rcases hs with hs | hs
        · exact absurd hs (disj_spec _ _ h.2 s hsk)
        · have := disj_spec _ _ h.1.2 s hs
          rw [List.mem_append, not_or] at this
          exact absurd hsk this.2
  · intro k ok ek hgt hok hek hk
    rcases conf_spec hc hgt hoi hok hei hek with h | h
    · rw [behind k h] at hk; cases hk
    · simp only [apartE, Bool.and_eq_true] at h
      cases hd : ok.dst with
      | none => exact .inl rfl
      | some d => exact .inr fun e => (Oper.apart_spec h.1.1).2.1 d e.symm hd
  · intro k ek s hgt hek hk hs hsk
    obtain ⟨ok, hok⟩ := get' k ek hek
    rcases conf_spec hc hgt hoi hok hei hek with h | h
    · rw [behind k h] at hk; cases hk
    · simp only [apartE, Bool.and_eq_true] at h
      have := disj_spec _ _ h.1.2 s hs
      rw [List.mem_append, not_or] at this
      exact this.2 hsk

/-- One operation more. -/
theorem up_add {S : Nat → Bool} {i : Nat} {o : Oper} {e : Ent} (hoi : ops[i]? = some o) (hei : tr[i]? = some e) (hi : S i = false)
    (h3 : ∀ k ok ek, i < k → ops[k]? = some ok → tr[k]? = some ek → S k = true → ok.dst = none ∨ ok.dst ≠ o.dst)
    (h4 : ∀ k ek s, i < k → tr[k]? = some ek → S k = true → s ∈ e.sites → s ∉ ek.sites) : ∀ m, i < m →
    stUp ops tr (fun k => S k || decide (k = i)) st0 m = stepSt (stUp ops tr S st0 m) o e := by
  have low : ∀ m, m ≤ i → stUp ops tr (fun k => S k || decide (k = i)) st0 m = stUp ops tr S st0 m := by
    intro m
    induction m with
    | zero => intro _; rfl
    | succ m ih =>
      intro hm
      simp only [stUp, ih (by omega)]
      have : decide (m = i) = false := by simp; omega
      rw [this, Bool.or_false]
  intro m
  induction m with
  | zero => intro h; omega
  | succ m ih =>
    intro hm
    by_cases hmi : m = i
    · subst hmi
      simp only [stUp, hoi, hei, low m (Nat.le_refl _), hi, Bool.false_or, decide_true, cond_true, cond_false]
    · have ih := ih (by omega)
      have hd : decide (m = i) = false := by simp; omega
      simp only [stUp, ih, hd, Bool.or_false]
      cases hom : ops[m]? with
      | none => rfl
      | some om =>
        cases hem : tr[m]? with
        | none => rfl
        | some em =>
          simp only
          cases hsm : S m with
          | false => rfl
          | true =>
            simp only [cond_true]
            have g3 := h3 m om em (by omega) hom hem hsm
            have g4 := fun s => h4 m em s (by omega) hem hsm
            unfold stepSt
            congr 1
            · funext t
              dsimp only
              by_cases h1 : om.dst = some t
              · have h2 : o.dst ≠ some t := fun e => by
                  rcases g3 with g | g
                  · rw [g] at h1; cases h1
                  · exact g (by rw [h1, e])
                rw [put_ne _ _ h2, h1, put_eq, put_eq]
              · rw [put_ne _ _ h1]
                by_cases h2 : o.dst = some t
                · rw [h2, put_eq, put_eq]
                · rw [put_ne _ _ h2, put_ne _ _ h2, put_ne _ _ h1]
            · funext s
              dsimp only
              by_cases h1 : s ∈ em.sites
              · have h2 : s ∉ e.sites := fun h => g4 s h h1
                rw [upd_not_mem _ e.wr s h2]
                exact upd_mem _ _ _ _ h1
              · rw [upd_not_mem _ em.wr s h1]
                by_cases h2 : s ∈ e.sites
                · exact upd_mem _ _ _ _ h2
                · rw [upd_not_mem _ e.wr s h2, upd_not_mem _ e.wr s h2, upd_not_mem _ em.wr s h1]

theorem entOk_local {H : Orc} {st st' : St} {o : Oper} {e : Ent} (h : EntOk H T n ops st o e) (henv : ∀ t, t ∈ o.looksAt ops.toArray → st'.env t = st.env t)
    (hobj : ∀ s, (s ∈ e.rd ∨ s ∈ e.sites) → st'.obj s = st.obj s) : EntOk H T n ops st' o e := by
  obtain ⟨h1, h2⟩ := h
  refine ⟨h1, ?_⟩
  have hg : guardSays ops st' o = guardSays ops st o := by
    unfold guardSays
    cases hgd : o.guard with
    | none => rfl
    | some jw =>
      obtain ⟨j, want⟩ := jw
      simp only
      cases hd : (ops[j]?).bind (·.dst) with
      | none => rfl
      | some dj => simp only; rw [henv dj (looks_guard hgd hd)]
  rw [hg]
  split at h2
  · refine wpO2_local h2 (fun x hx => ?_) (fun r rd u hk s hs => ?_)
    · cases x with
      | tmp t => exact henv t (looks_mem hx rfl)
      | const v => rfl
      | global g => rfl
      | func f => rfl
    · obtain ⟨_, rfl, rfl⟩ := hk
      exact hobj s hs
  · exact h2
  · exact h2.elim

theorem ent_exec (hT : TOk P T) {Z : Zone} {E : Nat → Value} {st : St} {a : Act} {w : World} {Q : Exit → Act → World → Prop} {next : Act → World → Prop} {i : Nat} {o : Oper} {e : Ent} (hI : Inv G Z0 w0 S n Z E st a w) (hoi : ops[i]? = some o) (h : EntOk (orc P G) T n ops st o e)
    (hn : ∀ Z' E' a' w', Inv G Z0 w0 S n Z' E' (stepSt st o e) a' w' → next a' w') : Go.wpOp P ops.toArray Q i next a w := by
  obtain ⟨hd, h⟩ := h
  unfold Go.wpOp
  have hoi' : ops.toArray[i]? = some o := by simpa using hoi
  simp only [hoi']
  have gs : ∀ b, guardSays ops st o = some b → Region.wanted o (yielded ops.toArray a.tmps) = b := by
    intro b hb
    unfold guardSays at hb
    cases hgd : o.guard with
    | none => rw [hgd] at hb; simp at hb; subst hb; simp [Region.wanted, hgd]
    | some jw =>
      obtain ⟨j, want⟩ := jw
      rw [hgd] at hb
      simp only at hb
      cases hdj : (ops[j]?).bind (·.dst) with
      | none => rw [hdj] at hb; cases hb
      | some dj =>
        rw [hdj] at hb
        simp only at hb
        have hdj' : (ops.toArray[j]?).bind (·.dst) = some dj := by simpa using hdj
        have henv := hI.env dj
        split at hb
        · rename_i he
          rw [he] at henv
          have hv : a.tmps.getD dj undef = .bool true := by generalize a.tmps.getD dj undef = y at henv; cases henv; rfl
          simp only [Option.some.injEq] at hb
          subst hb
          simp only [Region.wanted, hgd, yielded_of hdj' hv]
          cases want <;> rfl
        · rename_i he
          rw [he] at henv
          have hv : a.tmps.getD dj undef = .bool false := by generalize a.tmps.getD dj undef = y at henv; cases henv; rfl
          simp only [Option.some.injEq] at hb
          subst hb
          simp only [Region.wanted, hgd, yielded_of hdj' hv]
          cases want <;> rfl
        · rename_i he
          rw [he] at henv
          have hv : a.tmps.getD dj undef = undef := by generalize a.tmps.getD dj undef = y at henv; cases henv; rfl
          simp only [Option.some.injEq] at hb
          subst hb
          simp [Region.wanted, hgd, yielded_un hdj' hv]
        · cases hb
  split at h
  · rename_i hg
    rw [if_pos (gs _ hg)]
    refine .inl (o_sound2 hT o Z0 w0 S n Z E st a w _ _ _ hI hd h fun r rd u Z' E' x w' hk hI' => ?_)
    obtain ⟨href, rfl, rfl⟩ := hk
    refine hn Z' E' _ w' ?_
    have : ∀ t, RepS Z' w' (upd st.obj e.wr) E' (put st.env o.dst e.r t) ((a.put o.dst x).tmps.getD t undef) := fun t => by
      have ht := hI'.env t
      dsimp only at ht
      cases hdst : o.dst with
      | none => rw [hdst] at ht; exact ht
      | some d =>
        rw [hdst] at ht
        by_cases htd : d = t
        · subst htd
          rw [put_eq] at ht ⊢
          exact href.rep ht
        · have hne : some d ≠ some t := fun h => htd (Option.some.inj h)
          rw [put_ne _ _ hne] at ht ⊢
          exact ht
    exact { hI' with env := this }
  · rename_i hg
    rw [if_neg (by rw [gs _ hg]; simp)]
    subst h
    exact hn Z E _ w (hI.value (x := undef) hd .un)
  · exact h.elim

theorem draw_any (hT : TOk P T) {Q : Exit → Act → World → Prop} (hlen : tr.length = ops.length) (hc : noConf ops tr = true)
    (hE : ∀ i o e, ops[i]? = some o → tr[i]? = some e → EntOk (orc P G) T n ops (stUp ops tr (fun _ => true) st0 i) o e)
    (hQ : ∀ Z' E' a' w', Inv G Z0 w0 S n Z' E' (stUp ops tr (fun _ => true) st0 ops.length) a' w' → Q .normal a' w') :
    ∀ (fuel : Nat) (listed : Array Bool) (Z : Zone) (E : Nat → Value) (a : Act) (w : World), listed.size = ops.length → ClosedS ops (fun k => listed.getD k false) →
      (listed.toList.filter (!·)).length ≤ fuel → Inv G Z0 w0 S n Z E (stUp ops tr (fun k => listed.getD k false) st0 ops.length) a w → wpAny P .any ops.toArray Q fuel listed a w := by
  have hedges : edgesOk 0 ops = true := by unfold noConf at hc; simp only [Bool.and_eq_true] at hc; exact hc.2
  have edge : ∀ (l : List Oper) (i0 : Nat), edgesOk i0 l = true → ∀ j o, l[j]? = some o → ∀ e ∈ o.after, Region.binds .any e = true → e.on < i0 + j := by
    intro l
    induction l with
    | nil => intro i0 _ j o h; simp at h
    | cons x l ih =>
      intro i0 h j o hj e he hb
      simp only [edgesOk] at h
      cases hx : (x.after.all fun e => !Region.binds .any e || Nat.blt e.on i0) with
      | false => rw [hx] at h; simp at h
      | true =>
        rw [hx] at h
        simp only [cond_true] at h
        cases j with
        | zero =>
          simp at hj
          subst hj
          rw [Array.all_eq_true'] at hx
          have := hx e he
          simp only [hb, Bool.not_true, Bool.false_or] at this
          have h2 : e.on < i0 := Nat.lt_of_succ_le (by simpa [Nat.blt] using this)
          omega
        | succ j =>
          have := ih (i0 + 1) h j o (by simpa using hj) e he hb
          omega
  -- when nothing is ready, all is listed
  have done : ∀ (listed : Array Bool), listed.size = ops.length → Region.ready .any ops.toArray listed = [] → ∀ k, k < ops.length → listed.getD k false = true := by
    intro listed hsz hr k
    induction k using Nat.strongRecOn with
    | _ k ih =>
      intro hk
      cases hl : listed.getD k false with
      | true => rfl
      | false =>
        exfalso
        have ho : ops[k]? = some (ops[k]'hk) := List.getElem?_eq_getElem hk
        have : k ∈ Region.ready .any ops.toArray listed := by
          rw [mem_ready]
          refine ⟨?_, ops[k]'hk, by simp, fun e he hb => ih e.on ?_ ?_⟩
          · rw [Array.getD_eq_getD_getElem?, Array.getElem?_eq_getElem (by omega)] at hl ⊢
            exact hl
          · have := edge ops 0 hedges k _ ho e he hb; omega
          · have := edge ops 0 hedges k _ ho e he hb; omega
        rw [hr] at this
        cases this
  have full : ∀ (listed : Array Bool), listed.size = ops.length → (∀ k, k < ops.length → listed.getD k false = true) → stUp ops tr (fun k => listed.getD k false) st0 ops.length = stUp ops tr (fun _ => true) st0 ops.length := by
    intro listed hsz hall
    have : ∀ m, m ≤ ops.length → stUp ops tr (fun k => listed.getD k false) st0 m = stUp ops tr (fun _ => true) st0 m := by
      intro m
      induction m with
      | zero => intro _; rfl
      | succ m ih => intro hm; simp only [stUp, ih (by omega), hall m (by omega)]
    exact this _ (Nat.le_refl _)
  have stop : ∀ (listed : Array Bool) (Z : Zone) (E : Nat → Value) (a : Act) (w : World), listed.size = ops.length → Region.ready .any ops.toArray listed = [] → Inv G Z0 w0 S n Z E (stUp ops tr (fun k => listed.getD k false) st0 ops.length) a w → Q .normal a w := by
    intro listed Z E a w hsz hr hI
    rw [full listed hsz (done listed hsz hr)] at hI
    exact hQ _ _ _ _ hI
  intro fuel
  induction fuel with
  | zero =>
    intro listed Z E a w hsz hcl hf hI
    have hr : Region.ready .any ops.toArray listed = [] := by
      rw [List.eq_nil_iff_forall_not_mem]
      intro k hk
      rw [mem_ready] at hk
      obtain ⟨h1, o, ho, _⟩ := hk
      have hltk : ∀ {o : Oper}, ops.toArray[k]? = some o → k < ops.length := fun h => by simpa using (Array.getElem?_eq_some_iff.1 h).1
      have hlt : k < listed.size := by rw [hsz]; exact hltk ho
      have hmem : (false : Bool) ∈ listed.toList.filter (!·) := by
        rw [List.mem_filter]
        refine ⟨?_, rfl⟩
        rw [Array.getD_eq_getD_getElem?, Array.getElem?_eq_getElem hlt] at h1
        simp only [Option.getD_some] at h1
        rw [← h1]
        simp
      have : 0 < (listed.toList.filter (!·)).length := List.length_pos_iff.2 (fun e => by rw [e] at hmem; cases hmem)
      omega
    exact ⟨hr, stop listed Z E a w hsz hr hI⟩
  | succ fuel ih =>
    intro listed Z E a w hsz hcl hf hI
    refine ⟨fun hr => stop listed Z E a w hsz hr hI, fun i hi => ?_⟩
    rw [mem_ready] at hi
    obtain ⟨h1, o, ho, hall⟩ := hi
    have hoi : ops[i]? = some o := by simpa using ho
    have hlt : i < ops.length := (List.getElem?_eq_some_iff.1 hoi).1
    have hei : tr[i]? = some (tr[i]'(by omega)) := List.getElem?_eq_getElem (by omega)
    have hi0 : listed.getD i false = false := by
      rw [Array.getD_eq_getD_getElem?, Array.getElem?_eq_getElem (by omega)] at h1 ⊢
      exact h1
    obtain ⟨a1, a2, a3, a4⟩ := agree (st0 := st0) hlen hc hcl hoi hei hi0 (fun ed hed hb => hall ed hed hb)
    have hent := entOk_local (hE i o _ hoi hei) a1 a2
    refine ent_exec hT hI hoi hent fun Z' E' a' w' hI' => ?_
    have hfun : (fun k => (listed.setIfInBounds i true).getD k false) = (fun k => listed.getD k false || decide (k = i)) := by
      funext k
      by_cases hk : k = i
      · subst hk
        simp [Array.getD_eq_getD_getElem?, hsz, hlt]
      · rw [Array.getD_eq_getD_getElem?, Array.getElem?_setIfInBounds_ne (by omega), ← Array.getD_eq_getD_getElem?]
        simp [hk]
    refine ih (listed.setIfInBounds i true) Z' E' a' w' (by simpa using hsz) ?_ ?_ ?_
    · rw [hfun]
      intro k o' ed ho' hk hed hb
      simp only [Bool.or_eq_true, decide_eq_true_eq] at hk ⊢
      rcases hk with hk | rfl
      · exact .inl (hcl k o' ed ho' hk hed hb)
      · rw [hoi] at ho'
        injection ho' with ho'
        subst ho'
        exact .inl (hall ed hed hb)
    · have hset : ∀ (l : List Bool) (j : Nat), l[j]? = some false → ((l.set j true).filter (!·)).length + 1 = (l.filter (!·)).length := by
        intro l
        induction l with
        | nil => intro j h; simp at h
        | cons b l ihl =>
          intro j h
          cases j with
          | zero => simp at h; subst h; simp
          | succ j =>
            have := ihl j (by simpa using h)
            cases b <;> simp [List.filter_cons] <;> omega
      have := hset listed.toList i (by
        rw [Array.getElem?_toList, Array.getElem?_eq_getElem (by omega)]
        rw [Array.getD_eq_getD_getElem?, Array.getElem?_eq_getElem (by omega)] at hi0
        simpa using hi0)
      simp only [Array.toList_setIfInBounds]
      omega
    · rw [hfun, up_add hoi hei hi0 a3 a4 ops.length hlt]
      exact hI'

theorem refine_ex {g : Bool} {r : SV} {K : SV → Prop} (h : refineK g r K) : ∃ r', Ref r r' ∧ K r' := by
  unfold refineK at h
  cases g with
  | false => exact ⟨r, .inl rfl, h⟩
  | true =>
    simp only [cond_true] at h
    split at h
    · rename_i b
      cases b with
      | true => exact ⟨.kt, .inr (.inl ⟨rfl, rfl⟩), h.1 rfl⟩
      | false => exact ⟨.kf, .inr (.inr ⟨rfl, rfl⟩), h.2 rfl⟩
    · exact ⟨r, .inl rfl, h⟩

theorem stUp_cons (ops : List Oper) (tr : List Ent) (S : Nat → Bool) (st0 : St) {m : Nat} {o : Oper} {e : Ent} (ho : ops[m]? = some o) (he : tr[m]? = some e) (hS : S m = true) : stUp ops tr S st0 (m + 1) = stepSt (stUp ops tr S st0 m) o e := by
  simp only [stUp, ho, he, hS, cond_true]

/-- The walk of the text's order, taken apart. -/
theorem wpTr_ex {H : Orc} (all : List Oper) {K : List Ent → St → Prop} : ∀ (rest : List Oper) (i : Nat) (st : St) (acc : List Ent), wpTr H T n all i rest st acc K →
    ∃ es : List Ent, es.length = rest.length ∧ (∀ j o e, rest[j]? = some o → es[j]? = some e → EntOk H T n all (stUp rest es (fun _ => true) st j) o e) ∧ K (acc.reverse ++ es) (stUp rest es (fun _ => true) st rest.length)
  | [], i, st, acc, h => ⟨[], rfl, fun j o e h => by simp at h, by simpa [wpTr, stUp] using h⟩
  | o :: rest, i, st, acc, h => by
    simp only [wpTr] at h
    replace h := bif_true h
    obtain ⟨hd, h⟩ := h
    have shift : ∀ (e : Ent) (es : List Ent) (m : Nat), stUp (o :: rest) (e :: es) (fun _ => true) st (m + 1) = stUp rest es (fun _ => true) (stepSt st o e) m := by
      intro e es m
      induction m with
      | zero => simp [stUp]
      | succ m ih =>
        have h1 : stUp (o :: rest) (e :: es) (fun _ => true) st (m + 1 + 1) = match (o :: rest)[m + 1]?, (e :: es)[m + 1]? with
          | some o', some e' => bif true then stepSt (stUp (o :: rest) (e :: es) (fun _ => true) st (m + 1)) o' e' else stUp (o :: rest) (e :: es) (fun _ => true) st (m + 1)
          | _, _ => stUp (o :: rest) (e :: es) (fun _ => true) st (m + 1) := rfl
        rw [h1, ih]
        simp only [List.getElem?_cons_succ]
        rfl
    have fin : ∀ (e : Ent), EntOk H T n all st o e → wpTr H T n all (i + 1) rest (stepSt st o e) (e :: acc) K →
        ∃ es : List Ent, es.length = (o :: rest).length ∧ (∀ j o' e', (o :: rest)[j]? = some o' → es[j]? = some e' → EntOk H T n all (stUp (o :: rest) es (fun _ => true) st j) o' e') ∧ K (acc.reverse ++ es) (stUp (o :: rest) es (fun _ => true) st (o :: rest).length) := by
      intro e he hr
      obtain ⟨es, h1, h2, h3⟩ := wpTr_ex all rest (i + 1) (stepSt st o e) (e :: acc) hr
      refine ⟨e :: es, by simp [h1], fun j o' e' hj hje => ?_, ?_⟩
      · cases j with
        | zero => simp at hj hje; subst hj; subst hje; exact he
        | succ j => rw [shift]; exact h2 j o' e' (by simpa using hj) (by simpa using hje)
      · rw [List.length_cons, shift]
        simpa using h3
    have exec : guardSays all st o = some true → (wpO H T (look st) st.obj o.dst o.op o.type fun r rd u => refineK (isGuard all i) r fun r => wpTr H T n all (i + 1) rest (stepSt st o ⟨r, rd, u⟩) (⟨r, rd, u⟩ :: acc) K) →
        ∃ es : List Ent, es.length = (o :: rest).length ∧ (∀ j o' e', (o :: rest)[j]? = some o' → es[j]? = some e' → EntOk H T n all (stUp (o :: rest) es (fun _ => true) st j) o' e') ∧ K (acc.reverse ++ es) (stUp (o :: rest) es (fun _ => true) st (o :: rest).length) := by
      intro hg h
      obtain ⟨r, rd, u, hall, hk⟩ := wpO2_extract (wpO_two h)
      obtain ⟨r', href, hk'⟩ := refine_ex hk
      exact fin ⟨r', rd, u⟩ ⟨hd, by rw [hg]; exact hall _ ⟨href, rfl, rfl⟩⟩ hk'
    have pass : guardSays all st o = some false → wpTr H T n all (i + 1) rest (stepSt st o ⟨.un, [], []⟩) (⟨.un, [], []⟩ :: acc) K →
        ∃ es : List Ent, es.length = (o :: rest).length ∧ (∀ j o' e', (o :: rest)[j]? = some o' → es[j]? = some e' → EntOk H T n all (stUp (o :: rest) es (fun _ => true) st j) o' e') ∧ K (acc.reverse ++ es) (stUp (o :: rest) es (fun _ => true) st (o :: rest).length) :=
      fun hg h => fin ⟨.un, [], []⟩ ⟨hd, by rw [hg]⟩ h
    cases hgd : o.guard with
    | none => rw [hgd] at h; exact exec (by simp [guardSays, hgd]) h
    | some jw =>
      obtain ⟨j, want⟩ := jw
      rw [hgd] at h
      simp only at h
      split at h
      · exact h.elim
      · rename_i dj hdj
        split at h
        · rename_i he
          cases want with
          | true => exact exec (by simp [guardSays, hgd, hdj, he]) h
          | false => exact pass (by simp [guardSays, hgd, hdj, he]) h
        · rename_i he
          cases want with
          | true => exact pass (by simp [guardSays, hgd, hdj, he]) h
          | false => exact exec (by simp [guardSays, hgd, hdj, he]) h
        · rename_i he
          exact pass (by simp [guardSays, hgd, hdj, he]) h
        · exact h.elim

theorem Inv.drew {Z : Zone} {E : Nat → Value} {st : St} {a : Act} {w : World} (hI : Inv G Z0 w0 S n Z E st a w) : Inv G Z0 w0 S n Z E st a { w with drawn := w.drawn + 1 } := by
  have hk : Keeps Z w Z { w with drawn := w.drawn + 1 } := fun _ _ h => ⟨h, rfl, fun _ _ h => h⟩
  exact { hI with
    below := hI.below.drew
    zlt := hI.zlt
    env := fun t => (hI.env t).keep hk (ObjKeep.refl _ _)
    obj := fun t => (hI.obj t).keep hk (ObjKeep.refl _ _) fun b _ => ⟨rfl, fun _ h => h⟩ }

theorem wpDraw_sound (hT : TOk P T) (hm : P.follows .mixedOrders = true) {Q : Exit → Act → World → Prop} {K : St → Prop} (hK : ∀ Z' E' st' a' w', K st' → Inv G Z0 w0 S n Z' E' st' a' w' → Q .normal a' w') {id : Nat} {ops : Array Oper}
    {Z : Zone} {E : Nat → Value} {st : St} {a : Act} {w : World} (hI : Inv G Z0 w0 S n Z E st a w) (h : wpDraw (orc P G) T n ops.toList st K) : (Code.region id ops true).wp P Q a w := by
  unfold wpDraw at h
  obtain ⟨es, h1, h2, h3, h4⟩ := wpTr_ex ops.toList ops.toList 0 st [] h
  simp only [List.reverse_nil, List.nil_append] at h3
  refine wp_region_any hm ?_
  have h0 : ∀ m, stUp ops.toList es (fun k => (Array.replicate ops.size false).getD k false) st m = st := by
    intro m
    have hf : ∀ k, (Array.replicate ops.size false).getD k false = false := fun k => by
      rw [Array.getD_eq_getD_getElem?, Array.getElem?_replicate]
      split <;> rfl
    rw [show (fun k => (Array.replicate ops.size false).getD k false) = fun _ => false from funext hf]
    induction m with
    | zero => rfl
    | succ m ih =>
      simp only [stUp, cond_false, ih]
      split <;> rfl
  have := draw_any (ops := ops.toList) (tr := es) (st0 := st) hT h1 h3 h2 (fun Z' E' a' w' hI' => hK _ _ _ _ _ h4 hI') ops.size (Array.replicate ops.size false) Z E a { w with drawn := w.drawn + 1 } (by simp)
    (fun k o e _ hk => by
      have hf : (Array.replicate ops.size false).getD k false = false := by
        rw [Array.getD_eq_getD_getElem?, Array.getElem?_replicate]
        split <;> rfl
      simp only [hf] at hk
      cases hk) (Nat.le_trans (List.length_filter_le _ _) (by simp)) (by rw [h0]; exact hI.drew)
  simpa using this
end
end Go.Abs
