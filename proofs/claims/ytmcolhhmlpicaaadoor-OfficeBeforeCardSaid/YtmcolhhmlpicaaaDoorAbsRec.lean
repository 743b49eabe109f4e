/-
  The abstract weakest precondition once more, by the recursors themselves: the kernel and the elaborator then unfold it to the same terms.
-/
import Derived.Test.YtmcolhhmlpicaaaDoorAbsLoop
namespace Go.Abs
open Go Go.RowKit

section
variable (H : Orc) (T : Tab) (n : Nat)
def wqOpsF (all : List Oper) (o : Oper) (ih : St → (St → Prop) → Prop) (st : St) (K : St → Prop) : Prop :=
    bif inRange n o.dst then
      match o.guard with
      | .none => match nilCmp o.op with
        | some (q, t, x) => wpNil T st q t x fun r => ih ⟨put st.env o.dst r, st.obj⟩ K
        | .none => wpO H T (look st) st.obj o.dst o.op o.type fun r _ u => ih ⟨put st.env o.dst r, upd st.obj u⟩ K
      | some (j, want) => match (all[j]?).bind (·.dst) with
        | .none => False
        | some dj => match st.env dj with
          | .kt => bif want then wpO H T (look st) st.obj o.dst o.op o.type fun r _ u => ih ⟨put st.env o.dst r, upd st.obj u⟩ K
              else ih ⟨put st.env o.dst .un, st.obj⟩ K
          | .kf => bif want then ih ⟨put st.env o.dst .un, st.obj⟩ K
              else wpO H T (look st) st.obj o.dst o.op o.type fun r _ u => ih ⟨put st.env o.dst r, upd st.obj u⟩ K
          | .c (.v (.bool b)) =>
              (b = true → bif want then wpO H T (look ⟨put st.env (some dj) .kt, st.obj⟩) st.obj o.dst o.op o.type fun r _ u => ih ⟨put (put st.env (some dj) .kt) o.dst r, upd st.obj u⟩ K
                else ih ⟨put (put st.env (some dj) .kt) o.dst .un, st.obj⟩ K) ∧
              (b = false → bif want then ih ⟨put (put st.env (some dj) .kf) o.dst .un, st.obj⟩ K
                else wpO H T (look ⟨put st.env (some dj) .kf, st.obj⟩) st.obj o.dst o.op o.type fun r _ u => ih ⟨put (put st.env (some dj) .kf) o.dst r, upd st.obj u⟩ K)
          | .un => ih ⟨put st.env o.dst .un, st.obj⟩ K
          | _ => False
    else False
def wqOps (all l : List Oper) : St → (St → Prop) → Prop :=
  List.rec (motive := fun _ => St → (St → Prop) → Prop) (fun st K => K st) (fun o _ ih => wqOpsF H T n all o ih) l
def wqTrF (all : List Oper) (o : Oper) (ih : Nat → St → List Ent → (List Ent → St → Prop) → Prop) (i : Nat) (st : St) (tr : List Ent) (K : List Ent → St → Prop) : Prop :=
    bif inRange n o.dst then
      match o.guard with
      | .none => wpO H T (look st) st.obj o.dst o.op o.type fun r rd u => refineK (isGuard all i) r fun r => ih (i + 1) (stepSt st o ⟨r, rd, u⟩) (⟨r, rd, u⟩ :: tr) K
      | some (j, want) => match (all[j]?).bind (·.dst) with
        | .none => False
        | some dj => match st.env dj with
          | .kt => bif want then wpO H T (look st) st.obj o.dst o.op o.type fun r rd u => refineK (isGuard all i) r fun r => ih (i + 1) (stepSt st o ⟨r, rd, u⟩) (⟨r, rd, u⟩ :: tr) K
              else ih (i + 1) (stepSt st o ⟨.un, [], []⟩) (⟨.un, [], []⟩ :: tr) K
          | .kf => bif want then ih (i + 1) (stepSt st o ⟨.un, [], []⟩) (⟨.un, [], []⟩ :: tr) K
              else wpO H T (look st) st.obj o.dst o.op o.type fun r rd u => refineK (isGuard all i) r fun r => ih (i + 1) (stepSt st o ⟨r, rd, u⟩) (⟨r, rd, u⟩ :: tr) K
          | .un => ih (i + 1) (stepSt st o ⟨.un, [], []⟩) (⟨.un, [], []⟩ :: tr) K
          | _ => False
    else False
def wqTr (all l : List Oper) : Nat → St → List Ent → (List Ent → St → Prop) → Prop :=
  List.rec (motive := fun _ => Nat → St → List Ent → (List Ent → St → Prop) → Prop) (fun _ st tr K => K tr.reverse st) (fun o _ ih => wqTrF H T n all o ih) l
def wqDraw (ops : List Oper) (st : St) (K : St → Prop) : Prop :=
  wqTr H T n ops ops 0 st [] fun tr st' => noConf ops tr = true ∧ K st'
theorem wqOps_eq (all : List Oper) : ∀ (l : List Oper), wqOps H T n all l = fun st K => wpOps H T n all l st K
  | [] => rfl
  | o :: rest => by
    have ih := wqOps_eq all rest
    show wqOpsF H T n all o (wqOps H T n all rest) = _
    rw [ih]
    rfl
theorem wqTr_eq (all : List Oper) : ∀ (l : List Oper), wqTr H T n all l = fun i st tr K => wpTr H T n all i l st tr K
  | [] => rfl
  | o :: rest => by
    have ih := wqTr_eq all rest
    show wqTrF H T n all o (wqTr H T n all rest) = _
    rw [ih]
    rfl
def seqK (b : (Exit → St → Prop) → St → Prop) (K : Exit → St → Prop) (e : Exit) (st : St) : Prop := match e with | .normal => b K st | e => K e st
def blockK (id : Nat) (K : Exit → St → Prop) (e : Exit) (st : St) : Prop := match e with | .exit j => bif Nat.beq j id then K .normal st else K e st | e => K e st
def condK (s : SV) (a b : (Exit → St → Prop) → St → Prop) (K : Exit → St → Prop) (st : St) : Prop := match s with
    | .kt => a K st
    | .kf => b K st
    | .c (.v (.bool q)) => (q = true → a K st) ∧ (q = false → b K st)
    | _ => False
def loopK (I : Nat → St → Prop) (k : Nat) (K : Exit → St → Prop) (e : Exit) (st2 : St) : Prop := match e with | .normal => ∃ k' st3, k' < k ∧ Weak st2 st3 ∧ I k' st3 | e => K e st2
inductive loopP (H' : Orc) (T' : Tab) (n' : Nat) (c : Code) (body : (Exit → St → Prop) → St → Prop) (K : Exit → St → Prop) (st : St) : Prop
  | mk (h : ∃ I : Nat → St → Prop, (∃ k st0, Weak st st0 ∧ I k st0) ∧ ∀ k st1, I k st1 → body (loopK I k K) st1)
def seqJ (b : (Exit → St → Prop) → St → Prop) (K : Exit → St → Prop) (e : Exit) (st : St) : Prop := match e with | .normal => b K st ∨ ∃ st0, Weak st st0 ∧ b K st0 | e => K e st
/-- A piece of code behind which ways join. -/
inductive joinP (c d : Code) (a b : (Exit → St → Prop) → St → Prop) (K : Exit → St → Prop) (st : St) : Prop
  | mk (h : a (seqJ b K) st)
def wqA (code : Code) : (Exit → St → Prop) → St → Prop :=
  Code.rec (motive := fun _ => (Exit → St → Prop) → St → Prop)
    (fun K st => K .normal st)
    (fun _ ops draw K st => bif draw then wqDraw H T n ops.toList st (K .normal) else wqOps H T n ops.toList ops.toList st (K .normal))
    (fun x y a b K st => bif isJoin x then joinP x y a b K st else a (seqK b K) st)
    (fun c _ _ a b K st => condK (look st c) a b K st)
    (fun id _ body K st => body (blockK id K) st)
    (fun c body K st => loopP H T n c body K st)
    (fun _ _ _ _ _ _ _ _ => False)
    (fun id K st => K (.exit id) st)
    (fun _ _ _ _ => False)
    (fun _ _ _ => False)
    (fun _ _ _ => False)
    (fun K st => K .ret st)
    (fun _ _ _ => False)
    code
theorem wqA_eq : ∀ (code : Code), wqA H T n code = fun K st => wpA H T n code K st
  | .skip => rfl
  | .region _ ops draw => by
    funext K st
    show (bif draw then wqDraw H T n ops.toList st (K .normal) else wqOps H T n ops.toList ops.toList st (K .normal)) = _
    rw [wqOps_eq, wqDraw, wqTr_eq]
    rfl
  | .seq a b => by
    funext K st
    show (bif isJoin a then joinP a b (wqA H T n a) (wqA H T n b) K st else wqA H T n a (seqK (wqA H T n b) K) st) = _
    rw [wqA_eq a, wqA_eq b]
    show _ = bif isJoin a then _ else _
    cases isJoin a with
    | true => exact propext ⟨fun ⟨h⟩ => h, fun h => ⟨h⟩⟩
    | false => rfl
  | .cond c a b => by
    funext K st
    show condK (look st c) (wqA H T n a) (wqA H T n b) K st = _
    rw [wqA_eq a, wqA_eq b]
    rfl
  | .block id body => by
    funext K st
    show wqA H T n body (blockK id K) st = _
    rw [wqA_eq body]
    rfl
  | .loop body => by
    funext K st
    show loopP H T n body (wqA H T n body) K st = _
    rw [wqA_eq body]
    exact propext ⟨fun ⟨h⟩ => h, fun h => ⟨h⟩⟩
  | .rangeFunc .. => rfl
  | .exit _ => rfl
  | .scope _ => rfl
  | .label _ => rfl
  | .goto _ => rfl
  | .ret => rfl
  | .refuse _ => rfl
end
def roundK {α : Type} (mk : α → List (Nat × SV)) (mo : α → List (Nat × AObj)) (I : α → Prop) (μ : α → Nat) (x : α) (K : Exit → St → Prop) (e : Exit) (st2 : St) : Prop :=
  match e with | .normal => ∃ x', μ x' < μ x ∧ I x' ∧ EnvOk st2 (mk x') ∧ ObjsOk st2 (mo x') | e => K e st2
/-- No join is made. -/
theorem join_no {H : Orc} {T : Tab} {n : Nat} {a b : Code} {K : Exit → St → Prop} {st : St} (h : wqA H T n a (seqK (wqA H T n b) K) st) : joinP a b (wqA H T n a) (wqA H T n b) K st := by
  refine ⟨?_⟩
  rw [wqA_eq] at h ⊢
  refine wpA_mono a (fun e st h => ?_) st h
  cases e with
  | normal => exact .inl h
  | _ => exact h
def joinK {α : Type} (mk : α → List (Nat × SV)) (mo : α → List (Nat × AObj)) (I : α → Prop) (K : Exit → St → Prop) (e : Exit) (st2 : St) : Prop :=
  match e with | .normal => ∃ x, I x ∧ EnvOk st2 (mk x) ∧ ObjsOk st2 (mo x) | e => K e st2
/-- A join: behind it the slots and objects that are listed are known, as functions of x. -/
theorem join_oq {H : Orc} {T : Tab} {n : Nat} {α : Type} (mk : α → List (Nat × SV)) (mo : α → List (Nat × AObj)) (I : α → Prop) {a b : Code} {K : Exit → St → Prop} {st : St}
    (hb : ∀ x, I x → wqA H T n b K ⟨mkEnv (mk x), mkObj (mo x)⟩) (ha : wqA H T n a (joinK mk mo I K) st) : joinP a b (wqA H T n a) (wqA H T n b) K st := by
  refine ⟨?_⟩
  rw [wqA_eq] at ha ⊢
  refine wpA_mono a (fun e st2 h => ?_) st ha
  cases e with
  | normal =>
    obtain ⟨x, hx, he, ho⟩ := h
    exact .inr ⟨_, weak_mk he ho, hb x hx⟩
  | _ => exact h
/-- A loop: at its head the slots and objects that are listed are known, as functions of x; μ goes down. -/
theorem loop_oq {H : Orc} {T : Tab} {n : Nat} {α : Type} (mk : α → List (Nat × SV)) (mo : α → List (Nat × AObj)) (I : α → Prop) (μ : α → Nat) (x0 : α) {body : Code} {K : Exit → St → Prop} {st : St} (h0 : I x0) (he : EnvOk st (mk x0)) (ho : ObjsOk st (mo x0))
    (step : ∀ x, I x → wqA H T n body (roundK mk mo I μ x K) ⟨mkEnv (mk x), mkObj (mo x)⟩) :
    loopP H T n body (wqA H T n body) K st := by
  show wqA H T n (.loop body) K st
  rw [wqA_eq]
  refine loop_of mk mo I μ x0 h0 he ho fun x hx => ?_
  have h := step x hx
  rw [wqA_eq] at h
  exact h
theorem holds_of_wq {P : Program} {G : World → Prop} {T : Tab} (hT : TOk P T) (hm : P.follows .mixedOrders = true) {f : FuncId} {fn : Func} {code : Code} {args : List CV} {r : CV} (hf : P.funcs[f]? = some fn) (hname : (fn.name == "runtime.NumGoroutine") = false) (hb : fn.body = some code) (hn : args.length ≤ fn.ntmps)
    (h : wqA (orc P G) T fn.ntmps code (resOk T fn.results.toList r) (initSt args)) : Holds P G f args r := by
  rw [wqA_eq] at h
  exact holds_of_wp hT hm hf hname hb hn h
end Go.Abs
