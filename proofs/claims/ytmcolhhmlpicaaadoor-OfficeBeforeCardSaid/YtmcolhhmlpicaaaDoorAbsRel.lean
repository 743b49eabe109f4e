/-
  The relation between abstract states and the model's worlds, and how it is carried along.
-/
import Derived.Test.YtmcolhhmlpicaaaDoorAbsDef
namespace Go.Abs
open Go Go.RowKit

abbrev Zone := Nat → Nat → Prop

/-- A value of the model reads as closed data; every cell that the reading meets lies in the zone Z. -/
inductive Rep (Z : Zone) (w : World) : CV → Value → Prop
  | v (x : Value) : Rep Z w (.v x) x
  | agg (cs : List CV) (vs : List Value) (hl : cs.length = vs.length) (h : ∀ (i : Nat) (c : CV) (x : Value), cs[i]? = some c → vs[i]? = some x → Rep Z w c x)
      (ha : ∀ (i : Nat) (c : CV), cs[i]? = some c → c.atom = true) : Rep Z w (.agg cs) (.agg vs.toArray)
  | nil (sz : Nat) (a : Option Addr) (cap : Nat) : Rep Z w (.sl sz []) (.slice a 0 cap)
  | sl (sz : Nat) (ds : List (List CV)) (b o cap : Nat) (f : Nat → Nat → Value) (hcap : ds.length ≤ cap) (hsz : ∀ (i : Nat) (d : List CV), ds[i]? = some d → d.length = sz)
      (hc : ∀ (i j : Nat) (d : List CV) (c : CV), ds[i]? = some d → d[j]? = some c → Z b (o + i * sz + j) ∧ w.cell? ⟨b, o + i * sz + j, none⟩ = some (f i j) ∧ c.atom = true)
      (h : ∀ (i j : Nat) (d : List CV) (c : CV), ds[i]? = some d → d[j]? = some c → Rep Z w c (f i j)) : Rep Z w (.sl sz ds) (.slice (some ⟨b, o, none⟩) ds.length cap)
  | pi (cs : List CV) (b o off : Nat) (f : Nat → Value)
      (hc : ∀ (j : Nat) (c : CV), cs[j]? = some c → Z b (o + j) ∧ w.cell? ⟨b, o + j, none⟩ = some (f j) ∧ c.atom = true)
      (h : ∀ (j : Nat) (c : CV), cs[j]? = some c → Rep Z w c (f j)) : Rep Z w (.pi cs off) (.pointer (some ⟨b, o + off, none⟩))
  | fn (f : FuncId) (caps : List CV) (vs : List Value) (hl : caps.length = vs.length) (h : ∀ (i : Nat) (c : CV) (x : Value), caps[i]? = some c → vs[i]? = some x → Rep Z w c x) :
      Rep Z w (.fn f caps) (.func (.func f) #[] vs.toArray)
  | tup (cs : List CV) (vs : List Value) (hl : cs.length = vs.length) (h : ∀ (i : Nat) (c : CV) (x : Value), cs[i]? = some c → vs[i]? = some x → Rep Z w c x) :
      Rep Z w (.tup cs) (.tuple vs.toArray)
  | mpn : Rep Z w (.mp []) (.map none)
  | mp (es : List (CV × CV)) (b : Nat) (arr : Array MapEntry) (clock : Nat) (hz : Z b 0) (hh : w.heap[b]? = some (.map arr clock)) (hl : es.length = arr.size)
      (hk : ∀ (i : Nat) (k v : CV) (e : MapEntry), es[i]? = some (k, v) → arr[i]? = some e → Rep Z w k e.key)
      (hv : ∀ (i : Nat) (k v : CV) (e : MapEntry), es[i]? = some (k, v) → arr[i]? = some e → Rep Z w v e.val) : Rep Z w (.mp es) (.map (some b))

def Keeps (Z : Zone) (w : World) (Z' : Zone) (w' : World) : Prop := ∀ b o, Z b o → Z' b o ∧ w'.cell? ⟨b, o, none⟩ = w.cell? ⟨b, o, none⟩ ∧ ∀ es c, w.heap[b]? = some (.map es c) → w'.heap[b]? = some (.map es c)
theorem Keeps.refl (Z : Zone) (w : World) : Keeps Z w Z w := fun _ _ h => ⟨h, rfl, fun _ _ h => h⟩
theorem Keeps.trans {Z Z' Z'' : Zone} {w w' w'' : World} (h : Keeps Z w Z' w') (h' : Keeps Z' w' Z'' w'') : Keeps Z w Z'' w'' :=
  fun b o hz => ⟨(h' b o (h b o hz).1).1, (h' b o (h b o hz).1).2.1.trans (h b o hz).2.1, fun es c he => (h' b o (h b o hz).1).2.2 es c ((h b o hz).2.2 es c he)⟩
theorem Rep.keep {Z Z' : Zone} {w w' : World} (hk : Keeps Z w Z' w') {c : CV} {x : Value} (h : Rep Z w c x) : Rep Z' w' c x := by
  induction h with
  | v x => exact .v x
  | agg cs vs hl _ ha ih => exact .agg cs vs hl ih ha
  | nil sz a cap => exact .nil sz a cap
  | sl sz ds b o cap f hcap hsz hc _ ih =>
    refine .sl sz ds b o cap f hcap hsz (fun i j d c h1 h2 => ?_) ih
    obtain ⟨hz, hcell, hat⟩ := hc i j d c h1 h2
    exact ⟨(hk _ _ hz).1, (hk _ _ hz).2.1.trans hcell, hat⟩
  | pi cs b o off f hc _ ih =>
    refine .pi cs b o off f (fun j c h1 => ?_) ih
    obtain ⟨hz, hcell, hat⟩ := hc j c h1
    exact ⟨(hk _ _ hz).1, (hk _ _ hz).2.1.trans hcell, hat⟩
  | fn f caps vs hl _ ih => exact .fn f caps vs hl ih
  | tup cs vs hl _ ih => exact .tup cs vs hl ih
  | mpn => exact .mpn
  | mp es b arr clock hz hh hl _ _ ih1 ih2 => exact .mp es b arr clock (hk _ _ hz).1 ((hk _ _ hz).2.2 _ _ hh) hl ih1 ih2

theorem Rep.atom {Z : Zone} {w : World} {c : CV} {x : Value} (h : Rep Z w c x) (ha : c.atom = true) : x.oneCell' = true := by
  cases h <;> first | exact ha | rfl | (simp [CV.atom] at ha)

/-- Lists of values. -/
def RepL (Z : Zone) (w : World) (cs : List CV) (vs : List Value) : Prop := cs.length = vs.length ∧ ∀ (i : Nat) (c : CV) (x : Value), cs[i]? = some c → vs[i]? = some x → Rep Z w c x
theorem RepL.nil (Z : Zone) (w : World) : RepL Z w [] [] := ⟨rfl, fun i c x h => by simp at h⟩
theorem RepL.cons {Z : Zone} {w : World} {c : CV} {x : Value} {cs : List CV} {vs : List Value} (h : Rep Z w c x) (hs : RepL Z w cs vs) : RepL Z w (c :: cs) (x :: vs) := by
  refine ⟨by simp [hs.1], fun i c' x' h1 h2 => ?_⟩
  cases i with
  | zero => simp at h1 h2; subst h1; subst h2; exact h
  | succ i => simp at h1 h2; exact hs.2 i c' x' h1 h2
theorem RepL.head {Z : Zone} {w : World} {c : CV} {x : Value} {cs : List CV} {vs : List Value} (h : RepL Z w (c :: cs) (x :: vs)) : Rep Z w c x := h.2 0 c x rfl rfl
theorem RepL.tail {Z : Zone} {w : World} {c : CV} {x : Value} {cs : List CV} {vs : List Value} (h : RepL Z w (c :: cs) (x :: vs)) : RepL Z w cs vs :=
  ⟨by have := h.1; simpa using this, fun i c' x' h1 h2 => h.2 (i + 1) c' x' (by simpa using h1) (by simpa using h2)⟩
theorem RepL.keep {Z Z' : Zone} {w w' : World} (hk : Keeps Z w Z' w') {cs : List CV} {vs : List Value} (h : RepL Z w cs vs) : RepL Z' w' cs vs := ⟨h.1, fun i c x h1 h2 => (h.2 i c x h1 h2).keep hk⟩
theorem RepL.append {Z : Zone} {w : World} {cs ds : List CV} {vs us : List Value} (h : RepL Z w cs vs) (k : RepL Z w ds us) : RepL Z w (cs ++ ds) (vs ++ us) := by
  induction cs generalizing vs with
  | nil =>
    cases vs with
    | nil => exact k
    | cons x xs => have := h.1; simp at this
  | cons c cs ih =>
    cases vs with
    | nil => have := h.1; simp at this
    | cons x xs => exact RepL.cons h.head (ih h.tail)

def live (obj : Objs) (t g : Nat) : Prop := ∃ cs, obj t = (g, .var cs) ∨ obj t = (g, .ro cs) ∨ obj t = (g, .varx cs)
/-- A cell of the call's own: closed, or a reference to an object of the call's own. -/
inductive RepX1 (Z : Zone) (w : World) (obj : Objs) (E : Nat → Value) : CV → Value → Prop
  | cl {c : CV} {x : Value} (h : Rep Z w c x) : RepX1 Z w obj E c x
  | rs (t g : Nat) (x : Value) (hs : ∃ a l k, x = .slice a l k) (hg : g ≤ (obj t).1) (h : ∀ el sz ds foc, obj t = (g, .arr el sz ds foc) → E t = x) : RepX1 Z w obj E (.rs t g) x
  | pr (t g off : Nat) (x : Value) (hs : ∃ p, x = .pointer p) (hg : g ≤ (obj t).1) (h : live obj t g → ∃ b, E t = .pointer (some ⟨b, 0, none⟩) ∧ x = .pointer (some ⟨b, off, none⟩)) : RepX1 Z w obj E (.pr t g off) x
  | mr (t g : Nat) (x : Value) (hs : ∃ b, x = .map b) (hg : g ≤ (obj t).1) (h : ∀ es, obj t = (g, .map es) → E t = x) : RepX1 Z w obj E (.mr t g) x
inductive RepX (Z : Zone) (w : World) (obj : Objs) (E : Nat → Value) : CV → Value → Prop
  | one {c : CV} {x : Value} (h : RepX1 Z w obj E c x) : RepX Z w obj E c x
  | fr (f : FuncId) (caps : List CV) (vs : List Value) (hl : caps.length = vs.length) (h : ∀ (i : Nat) (c : CV) (x : Value), caps[i]? = some c → vs[i]? = some x → RepX1 Z w obj E c x) :
      RepX Z w obj E (.fr f caps) (.func (.func f) #[] vs.toArray)
theorem RepX.cl {Z : Zone} {w : World} {obj : Objs} {E : Nat → Value} {c : CV} {x : Value} (h : Rep Z w c x) : RepX Z w obj E c x := .one (.cl h)

inductive RepS (Z : Zone) (w : World) (obj : Objs) (E : Nat → Value) : SV → Value → Prop
  | any (x : Value) : RepS Z w obj E .any x
  | un : RepS Z w obj E .un undef
  | kt : RepS Z w obj E .kt (.bool true)
  | kf : RepS Z w obj E .kf (.bool false)
  | c (c : CV) (x : Value) (h : Rep Z w c x) : RepS Z w obj E (.c c) x
  | pm (t g off : Nat) (x : Value) (hs : ∃ p, x = .pointer p) (hg : g ≤ (obj t).1) (h : live obj t g → ∃ b, E t = .pointer (some ⟨b, 0, none⟩) ∧ x = .pointer (some ⟨b, off, none⟩)) : RepS Z w obj E (.pm t g off) x
  | ap (t g sz : Nat) (es : List (List CV)) (x : Value) (h : Rep Z w (.sl sz es) x) (hg : g ≤ (obj t).1) (ht : ∀ el s, obj t = (g, .tok el s) → E t = x) : RepS Z w obj E (.ap t g sz es) x
  | fnr (f : FuncId) (caps : List SV) (vs : List Value) (hl : caps.length = vs.length) (h : ∀ (i : Nat) (s : SV) (x : Value), caps[i]? = some s → vs[i]? = some x → RepS Z w obj E s x) :
      RepS Z w obj E (.fnr f caps) (.func (.func f) #[] vs.toArray)
  | rs (t g : Nat) (x : Value) (hs : ∃ a l k, x = .slice a l k) (hg : g ≤ (obj t).1) (h : ∀ el sz ds foc, obj t = (g, .arr el sz ds foc) → E t = x) : RepS Z w obj E (.rs t g) x
  | agx (cs : List CV) (vs : List Value) (hl : cs.length = vs.length) (h : ∀ (i : Nat) (c : CV) (x : Value), cs[i]? = some c → vs[i]? = some x → RepX Z w obj E c x)
      (ha : ∀ (i : Nat) (c : CV), cs[i]? = some c → c.atom = true) : RepS Z w obj E (.agx cs) (.agg vs.toArray)
  | pe (t g n off : Nat) (x : Value) (hg : g ≤ (obj t).1) (h : ∀ el sz ds foc, obj t = (g, .arr el sz ds foc) → ∃ b l k, E t = .slice (some ⟨b, 0, none⟩) l k ∧ x = .pointer (some ⟨b, n * sz + off, none⟩)) : RepS Z w obj E (.pe t g n off) x
  | mr (t g : Nat) (x : Value) (hs : ∃ b, x = .map b) (hg : g ≤ (obj t).1) (h : ∀ es, obj t = (g, .map es) → E t = x) : RepS Z w obj E (.mr t g) x

/-- What the step from one state of the call's own objects to the next must keep. -/
structure ObjKeep (obj : Objs) (E : Nat → Value) (obj' : Objs) (E' : Nat → Value) : Prop where
  gen : ∀ t, (obj t).1 ≤ (obj' t).1
  var : ∀ t g, g ≤ (obj t).1 → live obj' t g → live obj t g ∧ E' t = E t
  tok : ∀ t g el s, g ≤ (obj t).1 → obj' t = (g, .tok el s) → obj t = (g, .tok el s) ∧ E' t = E t
  arr : ∀ t g el sz ds foc, g ≤ (obj t).1 → obj' t = (g, .arr el sz ds foc) → (∃ ds0 foc0, obj t = (g, .arr el sz ds0 foc0)) ∧ E' t = E t
  map : ∀ t g es, g ≤ (obj t).1 → obj' t = (g, .map es) → (∃ es0, obj t = (g, .map es0)) ∧ E' t = E t
theorem ObjKeep.refl (obj : Objs) (E : Nat → Value) : ObjKeep obj E obj E := ⟨fun _ => Nat.le_refl _, fun _ _ _ h => ⟨h, rfl⟩, fun _ _ _ _ _ h => ⟨h, rfl⟩, fun _ _ _ _ _ _ _ h => ⟨⟨_, _, h⟩, rfl⟩, fun _ _ _ _ h => ⟨⟨_, h⟩, rfl⟩⟩
theorem RepX1.keep {Z Z' : Zone} {w w' : World} {obj obj' : Objs} {E E' : Nat → Value} (hk : Keeps Z w Z' w') (ho : ObjKeep obj E obj' E') {c : CV} {x : Value} (h : RepX1 Z w obj E c x) : RepX1 Z' w' obj' E' c x := by
  cases h with
  | cl h => exact .cl (h.keep hk)
  | rs t g x hs hg h =>
    refine .rs t g x hs (Nat.le_trans hg (ho.gen t)) fun el sz ds foc he => ?_
    obtain ⟨⟨ds0, foc0, h0⟩, hE⟩ := ho.arr t g el sz ds foc hg he
    exact hE.trans (h _ _ _ _ h0)
  | pr t g off x hs hg h =>
    refine .pr t g off x hs (Nat.le_trans hg (ho.gen t)) fun hl => ?_
    obtain ⟨hl', hE⟩ := ho.var t g hg hl
    obtain ⟨b, hb, hx⟩ := h hl'
    exact ⟨b, hE.trans hb, hx⟩
  | mr t g x hs hg h =>
    refine .mr t g x hs (Nat.le_trans hg (ho.gen t)) fun es he => ?_
    obtain ⟨⟨es0, h0⟩, hE⟩ := ho.map t g es hg he
    exact hE.trans (h _ h0)
theorem RepX.keep {Z Z' : Zone} {w w' : World} {obj obj' : Objs} {E E' : Nat → Value} (hk : Keeps Z w Z' w') (ho : ObjKeep obj E obj' E') {c : CV} {x : Value} (h : RepX Z w obj E c x) : RepX Z' w' obj' E' c x := by
  cases h with
  | one h => exact .one (h.keep hk ho)
  | fr f caps vs hl h => exact .fr f caps vs hl fun i c x h1 h2 => (h i c x h1 h2).keep hk ho

theorem RepS.keep {Z Z' : Zone} {w w' : World} {obj obj' : Objs} {E E' : Nat → Value} (hk : Keeps Z w Z' w') (ho : ObjKeep obj E obj' E') {s : SV} {x : Value} (h : RepS Z w obj E s x) : RepS Z' w' obj' E' s x := by
  induction h with
  | any x => exact .any x
  | un => exact .un
  | kt => exact .kt
  | kf => exact .kf
  | c c x h => exact .c c x (h.keep hk)
  | pm t g off x hs hg h =>
    refine .pm t g off x hs (Nat.le_trans hg (ho.gen t)) fun hl => ?_
    obtain ⟨hl', hE⟩ := ho.var t g hg hl
    obtain ⟨b, hb, hx⟩ := h hl'
    exact ⟨b, hE.trans hb, hx⟩
  | ap t g sz es x h hg ht =>
    refine .ap t g sz es x (h.keep hk) (Nat.le_trans hg (ho.gen t)) fun el s hl => ?_
    obtain ⟨hl', hE⟩ := ho.tok t g el s hg hl
    exact hE.trans (ht el s hl')
  | fnr f caps vs hl _ ih => exact .fnr f caps vs hl ih
  | rs t g x hs hg h =>
    refine .rs t g x hs (Nat.le_trans hg (ho.gen t)) fun el sz ds foc he => ?_
    obtain ⟨⟨ds0, foc0, h0⟩, hE⟩ := ho.arr t g el sz ds foc hg he
    exact hE.trans (h _ _ _ _ h0)
  | agx cs vs hl h ha => exact .agx cs vs hl (fun i c x h1 h2 => (h i c x h1 h2).keep hk ho) ha
  | pe t g n off x hg h =>
    refine .pe t g n off x (Nat.le_trans hg (ho.gen t)) fun el sz ds foc he => ?_
    obtain ⟨⟨ds0, foc0, h0⟩, hE⟩ := ho.arr t g el sz ds foc hg he
    obtain ⟨b, l, k, h1, h2⟩ := h _ _ _ _ h0
    exact ⟨b, l, k, hE.trans h1, h2⟩
  | mr t g x hs hg h =>
    refine .mr t g x hs (Nat.le_trans hg (ho.gen t)) fun es he => ?_
    obtain ⟨⟨es0, h0⟩, hE⟩ := ho.map t g es hg he
    exact hE.trans (h _ h0)

def AObj.blk (o : AObj) (e : Value) : Option Nat :=
  match o, e with
  | .var _, .pointer (some a) => some a.block
  | .ro _, .pointer (some a) => some a.block
  | .tok _ _, .slice (some a) _ _ => some a.block
  | .varx _, .pointer (some a) => some a.block
  | .arr _ _ _ _, .slice (some a) _ _ => some a.block
  | .map _, .map (some b) => some b
  | _, _ => Option.none
/-- The cell at place j of element i. -/
def cellX (ds : List (List CV)) (foc : Option (Nat × List CV)) (i : Nat) : Option (List CV) :=
  match foc with
  | .none => ds[i]?
  | some (m, d) => if i = m then some d else ds[i]?

def FocOk (ds : List (List CV)) (foc : Option (Nat × List CV)) : Prop :=
  (∀ m d, foc = some (m, d) → m < ds.length) ∧ ∀ (i : Nat) (d : List CV), ds[i]? = some d → (∀ m d', foc = some (m, d') → i ≠ m) → noRs d = true
theorem Rep.notRs {Z : Zone} {w : World} {c : CV} {x : Value} (h : Rep Z w c x) : c.isRs = false := by cases h <;> rfl
theorem RepX1.closed {Z : Zone} {w : World} {obj : Objs} {E : Nat → Value} {c : CV} {x : Value} (h : RepX1 Z w obj E c x) (hc : c.isRs = false) : Rep Z w c x := by
  cases h with
  | cl h => exact h
  | rs => cases hc
  | pr => cases hc
  | mr => cases hc
theorem RepX.closed {Z : Zone} {w : World} {obj : Objs} {E : Nat → Value} {c : CV} {x : Value} (h : RepX Z w obj E c x) (hc : c.isRs = false) : Rep Z w c x := by
  cases h with
  | one h => exact h.closed hc
  | fr => cases hc
theorem noRs_get : ∀ {cs : List CV} (_ : noRs cs = true) {j : Nat} {c : CV}, cs[j]? = some c → c.isRs = false
  | [], _, _, _, hj => by simp at hj
  | d :: r, h, j, c, hj => by
    simp only [noRs] at h
    cases hd : d.isRs with
    | true => rw [hd] at h; cases h
    | false =>
      rw [hd] at h
      cases j with
      | zero => simp at hj; subst hj; exact hd
      | succ j => exact noRs_get h (by simpa using hj)
theorem noRs_mk : ∀ {cs : List CV}, (∀ (j : Nat) (c : CV), cs[j]? = some c → c.isRs = false) → noRs cs = true
  | [], _ => rfl
  | d :: r, h => by
    simp only [noRs, h 0 d rfl, cond_false]
    exact noRs_mk fun j c hj => h (j + 1) c (by simpa using hj)
/-- The blocks of S are as they were; the streams too; no block has gone. -/
structure Kept (S : Nat → Prop) (w w' : World) : Prop where
  os : w'.os = w.os
  tape : w'.tape = w.tape
  output : w'.output = w.output
  size : w.heap.size ≤ w'.heap.size
  block : ∀ k, S k → w'.heap[k]? = w.heap[k]?
theorem Kept.refl (S : Nat → Prop) (w : World) : Kept S w w := ⟨rfl, rfl, rfl, Nat.le_refl _, fun _ _ => rfl⟩
theorem Kept.trans {S : Nat → Prop} {a b c : World} (h : Kept S a b) (k : Kept S b c) : Kept S a c :=
  ⟨k.os.trans h.os, k.tape.trans h.tape, k.output.trans h.output, Nat.le_trans h.size k.size, fun i hi => (k.block i hi).trans (h.block i hi)⟩
theorem Kept.mono {S S' : Nat → Prop} {w w' : World} (h : Kept S w w') (hs : ∀ k, S' k → S k) : Kept S' w w' := ⟨h.os, h.tape, h.output, h.size, fun k hk => h.block k (hs k hk)⟩
theorem Kept.drew {S : Nat → Prop} {a w : World} (h : Kept S a w) : Kept S a w.drew := ⟨h.os, h.tape, h.output, h.size, h.block⟩
theorem Kept.alloc {S : Nat → Prop} {a w : World} (h : Kept S a w) (hS : ∀ k, S k → k < w.heap.size) (o : Obj) : Kept S a (w.alloc o) :=
  h.trans ⟨rfl, rfl, rfl, by simp, fun k hk => Below.heap_alloc _ _ _ (hS k hk)⟩
theorem Kept.grown {S : Nat → Prop} {a w w' : World} {row : Option Nat} (h : Kept S a w) (hg : w.grownBy w' row) (hS : ∀ k, S k → k < w.heap.size) (hr : ∀ k, row = some k → ¬ S k) : Kept S a w' :=
  h.trans ⟨hg.os, hg.tape, hg.output, hg.size, fun k hk => hg.block k (hS k hk) (fun e => hr k e.symm hk)⟩
theorem Kept.of_below {S : Nat → Prop} {B : Nat} {w w' : World} (h : Below B w w') (hS : ∀ k, S k → k < B) : Kept S w w' := ⟨h.os, h.tape, h.output, h.size, fun k hk => h.block k (hS k hk)⟩
theorem Kept.below {B : Nat} {w w' : World} (h : Kept (fun k => k < B) w w') : Below B w w' := ⟨h.os, h.tape, h.output, h.size, h.block⟩

def ObjOk (Z : Zone) (w : World) (obj : Objs) (E : Nat → Value) (e : Value) : AObj → Prop
  | .none => True
  | .spent => True
  | .var cs => ∃ b el arr, e = .pointer (some ⟨b, 0, none⟩) ∧ w.heap[b]? = some (.cells arr el (0, 0)) ∧ arr.size = cs.length ∧
      (∀ (j : Nat) (c : CV), cs[j]? = some c → c.atom = true ∧ ∃ x, arr[j]? = some x ∧ Rep Z w c x) ∧ ∀ o, ¬ Z b o
  | .ro cs => ∃ b el arr, e = .pointer (some ⟨b, 0, none⟩) ∧ w.heap[b]? = some (.cells arr el (0, 0)) ∧ arr.size = cs.length ∧
      (∀ (j : Nat) (c : CV), cs[j]? = some c → c.atom = true ∧ Z b j ∧ ∃ x, arr[j]? = some x ∧ Rep Z w c x)
  | .tok el sz => ∃ n xs, 0 < sz ∧ w.ownsRow 0 el sz e n xs ∧ ∀ g cap, e = .slice (some ⟨g, 0, none⟩) n cap → (∀ o, n * sz ≤ o → ¬ Z g o)
  | .varx cs => ∃ b el arr, e = .pointer (some ⟨b, 0, none⟩) ∧ w.heap[b]? = some (.cells arr el (0, 0)) ∧ arr.size = cs.length ∧
      (∀ (j : Nat) (c : CV), cs[j]? = some c → c.atom = true ∧ ∃ x, arr[j]? = some x ∧ RepX Z w obj E c x) ∧ ∀ o, ¬ Z b o
  | .arr el sz ds foc => ∃ xs, 0 < sz ∧ w.ownsRow 0 el sz e ds.length xs ∧ FocOk ds foc ∧ (∀ (i : Nat) (d : List CV), i < ds.length → cellX ds foc i = some d → d.length = sz) ∧
      (∀ (i : Nat) (d : List CV), i < ds.length → cellX ds foc i = some d → ∀ (j : Nat) (c : CV), d[j]? = some c → c.atom = true ∧ ∃ u, xs[i * sz + j]? = some u ∧ RepX Z w obj E c u) ∧ ∀ b o, e.ownBlock = some b → ¬ Z b o
  | .map es => ∃ b arr clock, e = .map (some b) ∧ w.heap[b]? = some (.map arr clock) ∧ es.length = arr.size ∧
      (∀ (i : Nat) (k v : CV) (m : MapEntry), es[i]? = some (k, v) → arr[i]? = some m → Rep Z w k m.key ∧ Rep Z w v m.val) ∧ ∀ o, ¬ Z b o

/-- What stood at the beginning of a call. -/
structure Base where
  z : Zone
  obj : Objs
  E : Nat → Value
/-- Objects at pinned sites stay where they are while their generation is 0. -/
structure PinKeep (obj : Objs) (E : Nat → Value) (obj' : Objs) (E' : Nat → Value) : Prop where
  var : ∀ t, Nat.blt t PIN = false → live obj' t 0 → live obj t 0 ∧ E' t = E t
  tok : ∀ t el s, Nat.blt t PIN = false → obj' t = (0, .tok el s) → obj t = (0, .tok el s) ∧ E' t = E t
  arr : ∀ t el sz ds foc, Nat.blt t PIN = false → obj' t = (0, .arr el sz ds foc) → (∃ ds0 foc0, obj t = (0, .arr el sz ds0 foc0)) ∧ E' t = E t
  map : ∀ t es, Nat.blt t PIN = false → obj' t = (0, .map es) → (∃ es0, obj t = (0, .map es0)) ∧ E' t = E t
theorem PinKeep.refl (obj : Objs) (E : Nat → Value) : PinKeep obj E obj E := ⟨fun _ _ h => ⟨h, rfl⟩, fun _ _ _ _ h => ⟨h, rfl⟩, fun _ _ _ _ _ _ h => ⟨⟨_, _, h⟩, rfl⟩, fun _ _ _ h => ⟨⟨_, h⟩, rfl⟩⟩
theorem PinKeep.step {o0 o o' : Objs} {E0 E E' : Nat → Value} (h : PinKeep o0 E0 o E) (k : ObjKeep o E o' E') : PinKeep o0 E0 o' E' where
  var t ht hl := by
    obtain ⟨h1, h2⟩ := k.var t 0 (Nat.zero_le _) hl
    obtain ⟨h3, h4⟩ := h.var t ht h1
    exact ⟨h3, h2.trans h4⟩
  tok t el s ht hl := by
    obtain ⟨h1, h2⟩ := k.tok t 0 el s (Nat.zero_le _) hl
    obtain ⟨h3, h4⟩ := h.tok t el s ht h1
    exact ⟨h3, h2.trans h4⟩
  arr t el sz ds foc ht hl := by
    obtain ⟨⟨ds0, f0, h1⟩, h2⟩ := k.arr t 0 el sz ds foc (Nat.zero_le _) hl
    obtain ⟨h3, h4⟩ := h.arr t el sz ds0 f0 ht h1
    exact ⟨h3, h2.trans h4⟩
  map t es ht hl := by
    obtain ⟨⟨es0, h1⟩, h2⟩ := k.map t 0 es (Nat.zero_le _) hl
    obtain ⟨h3, h4⟩ := h.map t es0 ht h1
    exact ⟨h3, h2.trans h4⟩

structure Inv (G : World → Prop) (Z0 : Base) (w0 : World) (S : Nat → Prop) (n : Nat) (Z : Zone) (E : Nat → Value) (st : St) (a : Act) (w : World) : Prop where
  gs : ∀ w', Kept S w0 w' → G w'
  slt : ∀ k, S k → k < w0.heap.size
  below : Kept S w0 w
  defers : a.defers = []
  sz : a.tmps.size = n
  zlt : ∀ b o, Z b o → b < w.heap.size
  keeps : Keeps Z0.z w0 Z w
  pin : PinKeep Z0.obj Z0.E st.obj E
  znew : ∀ b o, Z b o → Z0.z b o ∨ ¬ S b
  env : ∀ t, RepS Z w st.obj E (st.env t) (a.tmps.getD t undef)
  obj : ∀ t, ObjOk Z w st.obj E (E t) (st.obj t).2
  own : ∀ t b, (st.obj t).2.blk (E t) = some b → ¬ S b
  apart : ∀ t t' b, t ≠ t' → (st.obj t).2.blk (E t) = some b → (st.obj t').2.blk (E t') ≠ some b

theorem Inv.z0 {G : World → Prop} {Z0 : Base} {w0 : World} {S : Nat → Prop} {n : Nat} {Z : Zone} {E : Nat → Value} {st : St} {a : Act} {w : World} (h : Inv G Z0 w0 S n Z E st a w) : ∀ b o, Z0.z b o → Z b o := fun b o hz => (h.keeps b o hz).1
theorem getD_put (a : Act) (d : Option Nat) (x : Value) (t : Nat) (hd : inRange a.tmps.size d = true) :
    (a.put d x).tmps.getD t undef = match d with | .none => a.tmps.getD t undef | some d => if d = t then x else a.tmps.getD t undef := by
  cases d with
  | none => rfl
  | some d =>
    simp only [Act.put]
    have hlt : d < a.tmps.size := Nat.lt_of_succ_le (by simpa [inRange, Nat.blt] using hd)
    by_cases h : d = t
    · subst h
      simp [Array.getD, hlt]
    · simp only [if_neg h, Array.getD_eq_getD_getElem?]
      rw [Array.getElem?_setIfInBounds_ne h]
theorem put_size (a : Act) (d : Option Nat) (x : Value) : (a.put d x).tmps.size = a.tmps.size := by cases d <;> simp [Act.put]
theorem put_defers (a : Act) (d : Option Nat) (x : Value) : (a.put d x).defers = a.defers := by cases d <;> rfl

section
variable {G : World → Prop} {Z0 : Base} {w0 : World} {S : Nat → Prop} {n : Nat} {Z Z' : Zone} {E E' : Nat → Value} {st : St} {a : Act} {w w' : World}
theorem env_put {obj : Objs} {d : Option Nat} {r : SV} {x : Value} {env : Nat → SV} (hd : inRange a.tmps.size d = true) (h : ∀ t, RepS Z w obj E (env t) (a.tmps.getD t undef)) (hr : RepS Z w obj E r x) (t : Nat) :
    RepS Z w obj E (put env d r t) ((a.put d x).tmps.getD t undef) := by
  rw [getD_put a d x t hd]
  cases d with
  | none => exact h t
  | some d =>
    simp only [put]
    by_cases hdt : d = t
    · subst hdt
      simpa using hr
    · have : Nat.beq d t = false := by
        cases hb : Nat.beq d t with
        | false => rfl
        | true => exact absurd (Nat.eq_of_beq_eq_true hb) hdt
      rw [this]
      simpa [hdt] using h t

/-- The general step: a value is put into a slot, memory has been carried on. -/
theorem Inv.step (hI : Inv G Z0 w0 S n Z E st a w) {d : Option Nat} {r : SV} {x : Value} {obj' : Objs} (hd : inRange n d = true)
    (hb : Kept S w w') (hk : Keeps Z w Z' w') (hlt : ∀ b o, Z' b o → b < w'.heap.size) (hnew : ∀ b o, Z' b o → Z b o ∨ ¬ S b)
    (ho : ObjKeep st.obj E obj' E') (hobj : ∀ t, ObjOk Z' w' obj' E' (E' t) (obj' t).2)
    (hap : ∀ t t' b, t ≠ t' → (obj' t).2.blk (E' t) = some b → (obj' t').2.blk (E' t') ≠ some b) (how : ∀ t b, (obj' t).2.blk (E' t) = some b → ¬ S b) (hr : RepS Z' w' obj' E' r x) :
    Inv G Z0 w0 S n Z' E' ⟨put st.env d r, obj'⟩ (a.put d x) w' :=
  { gs := hI.gs
    slt := hI.slt
    below := hI.below.trans hb
    defers := by rw [put_defers]; exact hI.defers
    sz := by rw [put_size]; exact hI.sz
    zlt := hlt
    keeps := hI.keeps.trans hk
    pin := hI.pin.step ho
    znew := fun b o h => (hnew b o h).elim (hI.znew b o) .inr
    env := fun t => env_put (by rw [hI.sz]; exact hd) (fun t => (hI.env t).keep hk ho) hr t
    obj := hobj
    own := how
    apart := hap }
/-- A value and nothing else. -/
theorem Inv.value (hI : Inv G Z0 w0 S n Z E st a w) {d : Option Nat} {r : SV} {x : Value} (hd : inRange n d = true) (hr : RepS Z w st.obj E r x) :
    Inv G Z0 w0 S n Z E ⟨put st.env d r, st.obj⟩ (a.put d x) w :=
  hI.step hd (Kept.refl _ _) (Keeps.refl _ _) hI.zlt (fun _ _ h => .inl h) (ObjKeep.refl _ _) hI.obj hI.apart hI.own hr

theorem ObjOk.keep {obj obj' : Objs} {o : AObj} {e : Value} (h : ObjOk Z w obj E e o) (hk : Keeps Z w Z' w') (ho : ObjKeep obj E obj' E') (hblk : ∀ b, o.blk e = some b → w'.heap[b]? = w.heap[b]? ∧ ∀ k, Z' b k → Z b k) : ObjOk Z' w' obj' E' e o := by
  cases o with
  | none => trivial
  | spent => trivial
  | var cs =>
    obtain ⟨b, el, arr, he, hh, hs, hc, hz⟩ := h
    obtain ⟨h1, h2⟩ := hblk b (by rw [he]; rfl)
    exact ⟨b, el, arr, he, h1.trans hh, hs, fun j c hj => ⟨(hc j c hj).1, by obtain ⟨_, x, hx, hr⟩ := hc j c hj; exact ⟨x, hx, hr.keep hk⟩⟩, fun o hz' => hz o (h2 o hz')⟩
  | ro cs =>
    obtain ⟨b, el, arr, he, hh, hs, hc⟩ := h
    exact ⟨b, el, arr, he, (hblk b (by rw [he]; rfl)).1.trans hh, hs, fun j c hj => ⟨(hc j c hj).1, (hk _ _ (hc j c hj).2.1).1, by obtain ⟨_, _, x, hx, hr⟩ := hc j c hj; exact ⟨x, hx, hr.keep hk⟩⟩⟩
  | tok el sz =>
    obtain ⟨m, xs, hsz, ⟨hl, hown⟩, hz⟩ := h
    rcases hown with hnil | ⟨g, cap, cur, he, hb, hh, hrest⟩
    · exact ⟨m, xs, hsz, ⟨hl, .inl hnil⟩, fun g cap he => by rw [hnil.1] at he; simp at he⟩
    · obtain ⟨h1, h2⟩ := hblk g (by rw [he]; rfl)
      exact ⟨m, xs, hsz, ⟨hl, .inr ⟨g, cap, cur, he, hb, h1.trans hh, hrest⟩⟩, fun g' cap' he' o ho hz' => by
        have : g' = g := by rw [he] at he'; injection he' with h1; injection h1 with h1; injection h1 with h1; exact h1.symm
        subst this
        exact hz g' cap' he' o ho (h2 o hz')⟩
  | varx cs =>
    obtain ⟨b, el, arr, he, hh, hs, hc, hz⟩ := h
    obtain ⟨h1, h2⟩ := hblk b (by rw [he]; rfl)
    exact ⟨b, el, arr, he, h1.trans hh, hs, fun j c hj => ⟨(hc j c hj).1, by obtain ⟨_, x, hx, hr⟩ := hc j c hj; exact ⟨x, hx, hr.keep hk ho⟩⟩, fun o hz' => hz o (h2 o hz')⟩
  | arr el sz ds foc =>
    obtain ⟨xs, hsz, ⟨hl, hown⟩, hm, hd, hc, hz⟩ := h
    have hcc : ∀ (i : Nat) (d : List CV), i < ds.length → cellX ds foc i = some d → ∀ (j : Nat) (c : CV), d[j]? = some c → c.atom = true ∧ ∃ u, xs[i * sz + j]? = some u ∧ RepX Z' w' obj' E' c u :=
      fun i d hi hcx j c hj => ⟨(hc i d hi hcx j c hj).1, by obtain ⟨_, x, hx, hr⟩ := hc i d hi hcx j c hj; exact ⟨x, hx, hr.keep hk ho⟩⟩
    rcases hown with hnil | ⟨g, cap, cur, he, hb, hh, hrest⟩
    · exact ⟨xs, hsz, ⟨hl, .inl hnil⟩, hm, hd, hcc, fun b o hb => by rw [hnil.1] at hb; simp [Value.ownBlock] at hb⟩
    · obtain ⟨h1, h2⟩ := hblk g (by rw [he]; rfl)
      exact ⟨xs, hsz, ⟨hl, .inr ⟨g, cap, cur, he, hb, h1.trans hh, hrest⟩⟩, hm, hd, hcc, fun b o hb' hz' => by
        have : b = g := by rw [he] at hb'; simp [Value.ownBlock] at hb'; exact hb'.symm
        subst this
        exact hz b o hb' (h2 o hz')⟩
  | map es =>
    obtain ⟨b, arr, clock, he, hh, hl, hc, hz⟩ := h
    obtain ⟨h1, h2⟩ := hblk b (by rw [he]; rfl)
    exact ⟨b, arr, clock, he, h1.trans hh, hl, fun i k v m h3 h4 => ⟨(hc i k v m h3 h4).1.keep hk, (hc i k v m h3 h4).2.keep hk⟩, fun o hz' => hz o (h2 o hz')⟩

theorem tok_blk (x : Value) (el sz : Nat) : (AObj.tok el sz).blk x = x.ownBlock := by
  cases x <;> try rfl
  rename_i a l c
  cases a <;> rfl
theorem arr_blk (x : Value) (el sz : Nat) (ds : List (List CV)) (foc : Option (Nat × List CV)) : (AObj.arr el sz ds foc).blk x = x.ownBlock := by
  cases x <;> try rfl
  rename_i a l c
  cases a <;> rfl
theorem ObjOk.lt {obj : Objs} {o : AObj} {e : Value} {b : Nat} (h : ObjOk Z w obj E e o) (hb : o.blk e = some b) : b < w.heap.size := by
  cases o with
  | none => simp [AObj.blk] at hb
  | spent => simp [AObj.blk] at hb
  | var cs =>
    obtain ⟨b', el, arr, he, hh, _⟩ := h
    rw [he] at hb
    simp [AObj.blk] at hb
    subst hb
    exact (Array.getElem?_eq_some_iff.1 hh).1
  | ro cs =>
    obtain ⟨b', el, arr, he, hh, _⟩ := h
    rw [he] at hb
    simp [AObj.blk] at hb
    subst hb
    exact (Array.getElem?_eq_some_iff.1 hh).1
  | tok el sz =>
    obtain ⟨m, xs, hsz, hown, _⟩ := h
    rw [tok_blk] at hb
    exact (hown.lt b hb).2
  | varx cs =>
    obtain ⟨b', el, arr, he, hh, _⟩ := h
    rw [he] at hb
    simp [AObj.blk] at hb
    subst hb
    exact (Array.getElem?_eq_some_iff.1 hh).1
  | arr el sz ds foc =>
    obtain ⟨xs, hsz, hown, _⟩ := h
    rw [arr_blk] at hb
    exact (hown.lt b hb).2
  | map es =>
    obtain ⟨b', arr, clock, he, hh, _⟩ := h
    rw [he] at hb
    simp [AObj.blk] at hb
    subst hb
    exact (Array.getElem?_eq_some_iff.1 hh).1
theorem cell_heap {b o : Nat} (h : w'.heap[b]? = w.heap[b]?) : w'.cell? ⟨b, o, none⟩ = w.cell? ⟨b, o, none⟩ := World.cell?_of_block (a := ⟨b, o, none⟩) h
theorem keep_heap {b o : Nat} (h : w'.heap[b]? = w.heap[b]?) : w'.cell? ⟨b, o, none⟩ = w.cell? ⟨b, o, none⟩ ∧ ∀ es c, w.heap[b]? = some (.map es c) → w'.heap[b]? = some (.map es c) := ⟨cell_heap h, fun _ _ he => h.trans he⟩
theorem Keeps.alloc (hlt : ∀ b o, Z b o → b < w.heap.size) (o : Obj) : Keeps Z w Z (w.alloc o) :=
  fun b k hz => ⟨hz, keep_heap (heap_alloc_old w o (hlt b k hz))⟩
end

def own0 : CV → CV
  | .ow j => .rs j 0
  | c => c
def obo (os : List (Nat × Nat × List (List CV) × Option (Nat × List CV))) (j : Nat) : Nat × AObj :=
  match os[j]? with
  | some (el, sz, ds, .none) => (0, .arr el sz ds .none)
  | some (el, sz, ds, some (m, cs)) => (0, .arr el sz ds (some (m, cs.map own0)))
  | .none => (0, .none)
/-- What a result reads as; slices of the call's own among it are handed over. -/
def RepW (Z : Zone) (Fr : Nat → Prop) (w : World) (r : CV) (os : List (Nat × Nat × List (List CV) × Option (Nat × List CV))) (x : Value) : Prop :=
  ∃ Eo : Nat → Value, (∀ j, ObjOk Z w (obo os) Eo (Eo j) (obo os j).2) ∧ (∀ j j' b, j ≠ j' → (obo os j).2.blk (Eo j) = some b → (obo os j').2.blk (Eo j') ≠ some b) ∧ (∀ j b, (obo os j).2.blk (Eo j) = some b → Fr b) ∧
    (∀ j, j < os.length → ∃ a l k, Eo j = .slice a l k) ∧
    (∀ (k el sz : Nat) (ds : List (List CV)) (m : Nat) (cs : List CV), os[k]? = some (el, sz, ds, some (m, cs)) → noRs cs = true ∧ ∀ (i j : Nat), cs[i]? = some (.ow j) → j < os.length) ∧
    match r with
    | .ow j => x = Eo j ∧ j < os.length
    | .agg cs => ∃ vs : List Value, noRs cs = true ∧ x = .agg vs.toArray ∧ cs.length = vs.length ∧ (∀ (i : Nat) (c : CV) (v : Value), cs[i]? = some c → vs[i]? = some v → RepX Z w (obo os) Eo (own0 c) v) ∧ (∀ (i : Nat) (c : CV), cs[i]? = some c → c.atom = true) ∧
        (∀ (i j : Nat), cs[i]? = some (.ow j) → j < os.length)
    | _ => False
def RepR (Z : Zone) (Fr : Nat → Prop) (w : World) (r : CV) (x : Value) : Prop :=
  match r with
  | .wo r os => RepW Z Fr w r os x
  | r => Rep Z w r x
theorem RepW.fr {Z : Zone} {Fr Fr' : Nat → Prop} {w : World} {r : CV} {os : List (Nat × Nat × List (List CV) × Option (Nat × List CV))} {x : Value} (h : RepW Z Fr w r os x) (hf : ∀ b, Fr b → Fr' b) : RepW Z Fr' w r os x := by
  obtain ⟨Eo, h1, h2, h3, h4⟩ := h
  exact ⟨Eo, h1, h2, fun j b hb => hf b (h3 j b hb), h4⟩
theorem RepR.pure {Z : Zone} {Fr : Nat → Prop} {w : World} {r : CV} {x : Value} (h : RepR Z Fr w r x) (hp : r.pure = true) : Rep Z w r x := by
  cases r <;> first | exact h | (simp [CV.pure] at hp)
theorem RepR.mk {Z : Zone} {Fr : Nat → Prop} {w : World} {r : CV} {x : Value} (h : Rep Z w r x) : RepR Z Fr w r x := by
  cases h <;> (unfold RepR; constructor <;> assumption)
/-- The contract of a pure function: closed data in, closed data out; nothing that was there has changed. -/
def HasBody (P : Program) (f : FuncId) : Prop := ∃ fn, P.funcs[f]? = some fn ∧ (fn.name == "runtime.NumGoroutine") = false ∧ fn.body.isNone = false
def Holds (P : Program) (G : World → Prop) (f : FuncId) (args : List CV) (r : CV) : Prop :=
  HasBody P f ∧ ∀ (Z : Zone) (w : World) (vs : List Value), RepL Z w args vs → (∀ b o, Z b o → b < w.heap.size) → (∀ w', Below w.heap.size w w' → G w') →
    Calls P f vs.toArray w fun e w' => ∃ (x : Value) (Z' : Zone), e = .returned x ∧ RepR Z' (fun b => w.heap.size ≤ b) w' r x ∧ (∀ b o, Z b o → Z' b o) ∧
      (∀ b o, Z' b o → (Z b o ∨ w.heap.size ≤ b) ∧ b < w'.heap.size) ∧ Below w.heap.size w w'

/-- Some objects that are handed over: they lie apart. -/
structure Grp (Z : Zone) (w : World) (os : List (Nat × AObj)) (Eo : Nat → Value) : Prop where
  ok : ∀ j, ObjOk Z w (objL os) Eo (Eo j) (objL os j).2
  apart : ∀ j j' b, j ≠ j' → (objL os j).2.blk (Eo j) = some b → (objL os j').2.blk (Eo j') ≠ some b
/-- Their blocks. -/
def GB (os : List (Nat × AObj)) (Eo : Nat → Value) (b : Nat) : Prop := ∃ j, (objL os j).2.blk (Eo j) = some b
/-- What lay there at the call, without them. -/
def SG (w : World) (os : List (Nat × AObj)) (Eo : Nat → Value) (k : Nat) : Prop := k < w.heap.size ∧ ¬ GB os Eo k
structure EffPost (Z : Zone) (w : World) (os : List (Nat × AObj)) (Eo : Nat → Value) (Z' : Zone) (w' : World) (os' : List (Nat × AObj)) (Eo' : Nat → Value) (r : SV) (x : Value) : Prop where
  res : RepS Z' w' (objL os') Eo' r x
  grp : Grp Z' w' os' Eo'
  keeps : Keeps Z w Z' w'
  zlt : ∀ b o, Z' b o → b < w'.heap.size
  znew : ∀ b o, Z' b o → Z b o ∨ w.heap.size ≤ b ∨ GB os Eo b
  kept : Kept (SG w os Eo) w w'
  own : ∀ b, GB os' Eo' b → w.heap.size ≤ b ∨ GB os Eo b
  ok : ObjKeep (objL os) Eo (objL os') Eo'
/-- What is known of an operation that is handed objects of the caller's own. -/
def EffOp (P : Program) (G : World → Prop) (op : Op) (ty : TypeId) (args : List SV) (os : List (Nat × AObj)) (r : SV) (os' : List (Nat × AObj)) : Prop :=
  ∀ (Z : Zone) (w : World) (Eo : Nat → Value) (a : Act) (o : Oper) (next : Act → World → Prop) (Q : Exit → Act → World → Prop), o.op = op → o.type = ty → Grp Z w os Eo → (∀ b o, Z b o → b < w.heap.size) →
    args.length = op.operands.size → (∀ (i : Nat) (s : SV) (x : Operand), args[i]? = some s → op.operands[i]? = some x → RepS Z w (objL os) Eo s (a.eval x)) → (∀ w', Kept (SG w os Eo) w w' → G w') →
    (∀ x Z' w' Eo', EffPost Z w os Eo Z' w' os' Eo' r x → next (a.put o.dst x) w') → o.wp P a w next Q
def orc (P : Program) (G : World → Prop) : Orc := ⟨Holds P G, EffOp P G⟩
end Go.Abs
