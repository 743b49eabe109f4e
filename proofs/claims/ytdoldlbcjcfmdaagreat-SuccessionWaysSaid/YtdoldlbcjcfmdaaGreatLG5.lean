/- In the order of their beginnings: shares, generations. -/
import Derived.Test.YtdoldlbcjcfmdaaGreatLG4
set_option linter.unusedVariables false
set_option linter.unusedSimpArgs false
namespace Go.Proofs.YtdoldlbcjcfmdaaGreat
open Go Go.Abs

theorem ix_mid' {α : Type} {a b : List α} {x : α} {n : Nat} (h : a.length = n) : ix (a ++ x :: b) (n : Int) = some x := by
  subst h
  rw [ix_at (by simp)]
  simp
theorem set_mid' {α : Type} {a b : List α} {x y : α} {n : Nat} (h : a.length = n) : (a ++ x :: b).set n y = a ++ y :: b := by
  subst h
  simp
theorem cmpF_eq (x y : Aut) : sinTime_1_1_S x y = some (bif decide (x.In.From < y.In.From) then -1 else bif decide (x.In.From > y.In.From) then 1 else 0) := by
  simp only [sinTime_1_1_S, sinTime_1_1_F, cmpCompare_eq, Option.bind_some]
theorem cmpF_neg (x y : Aut) : decide ((bif decide (x.In.From < y.In.From) then (-1 : Int) else bif decide (x.In.From > y.In.From) then 1 else 0) < 0) = decide (x.In.From < y.In.From) := by
  by_cases h : x.In.From < y.In.From
  · simp [h]
  · by_cases h2 : x.In.From > y.In.From <;> simp [h, h2]
/-- The place of x from behind. -/
def insR (x : Aut) : List Aut → List Aut
  | [] => [x]
  | y :: r => bif decide (x.In.From < y.In.From) then y :: insR x r else x :: y :: r
theorem insR_perm (x : Aut) : ∀ r : List Aut, (insR x r).Perm (x :: r)
  | [] => List.Perm.refl _
  | y :: r => by
    rw [insR]
    cases decide (x.In.From < y.In.From) with
    | true => exact ((insR_perm x r).cons y).trans (List.Perm.swap _ _ _)
    | false => exact List.Perm.refl _
def RSorted (l : List Aut) : Prop := l.Pairwise fun a b => b.In.From ≤ a.In.From
theorem insR_sorted {x : Aut} : ∀ {r : List Aut}, RSorted r → RSorted (insR x r)
  | [], _ => List.pairwise_singleton _ _
  | y :: r, h => by
    rw [RSorted, List.pairwise_cons] at h
    rw [insR]
    cases hd : decide (x.In.From < y.In.From) with
    | true =>
      have hlt := of_decide_eq_true hd
      rw [cond_true, RSorted, List.pairwise_cons]
      refine ⟨fun z hz => ?_, insR_sorted h.2⟩
      rcases List.mem_cons.1 ((insR_perm x r).mem_iff.1 hz) with rfl | hz
      · omega
      · exact h.1 z hz
    | false =>
      have hge := of_decide_eq_false hd
      rw [cond_false, RSorted, List.pairwise_cons, List.pairwise_cons]
      refine ⟨fun z hz => ?_, h.1, h.2⟩
      rcases List.mem_cons.1 hz with rfl | hz
      · omega
      · have := h.1 z hz; omega
theorem insert_L2 {i : Nat} {q : List Aut} {k : Int → List Aut → Option (List Aut)} {x : Aut} :
    ∀ (r t : List Aut) (fu : Nat), r.length < fu → r.length ≤ 1000 →
      slInsertion_L2 0 (i : Int) k fu (r.length : Int) (r.reverse ++ x :: (t ++ q)) = k (IntKind.i64.wrap ((i : Int) + 1)) ((insR x r).reverse ++ (t ++ q))
  | r, t, 0, h, _ => by omega
  | [], t, fu + 1, _, _ => by
    simp only [slInsertion_L2, List.length_nil]
    rw [show decide (((0 : Nat) : Int) > 0) = false from rfl, cond_false]
    simp [insR]
  | y :: r, t, fu + 1, hf, hm => by
    simp only [List.length_cons] at hf hm ⊢
    have w : IntKind.i64.wrap (((r.length + 1 : Nat) : Int) - 1) = (r.length : Int) := by rw [wrap_id (by unfold okI; omega)]; omega
    have e1 : (y :: r).reverse ++ x :: (t ++ q) = (r.reverse ++ [y]) ++ x :: (t ++ q) := by simp
    have e2 : (y :: r).reverse ++ x :: (t ++ q) = r.reverse ++ y :: (x :: (t ++ q)) := by simp
    have g1 : ix ((y :: r).reverse ++ x :: (t ++ q)) ((r.length + 1 : Nat) : Int) = some x := by rw [e1]; exact ix_mid' (by simp)
    have g2 : ix ((y :: r).reverse ++ x :: (t ++ q)) (r.length : Int) = some y := by rw [e2]; exact ix_mid' (by simp)
    have s1 : ((y :: r).reverse ++ x :: (t ++ q)).set (((r.length + 1 : Nat) : Int)).toNat y = r.reverse ++ y :: (y :: (t ++ q)) := by
      rw [e1, Int.toNat_natCast, set_mid' (by simp)]; simp
    have g3 : ix (r.reverse ++ y :: (y :: (t ++ q))) (r.length : Int) = some y := ix_mid' (by simp)
    have s2 : (r.reverse ++ y :: (y :: (t ++ q))).set ((r.length : Int)).toNat x = r.reverse ++ x :: ((y :: t) ++ q) := by
      rw [Int.toNat_natCast, set_mid' (by simp)]; simp
    simp only [slInsertion_L2, decide_eq_true (show ((r.length + 1 : Nat) : Int) > 0 by omega), cond_true, g1, w, g2, Option.bind_some, cmpF_eq, cmpF_neg, s1, g3, s2, insR]
    cases decide (x.In.From < y.In.From) with
    | true =>
      rw [cond_true, cond_true, insert_L2 r (y :: t) fu (by omega) (by omega)]
      simp
    | false =>
      rw [cond_false, cond_false]
      simp
def sortR : List Aut → List Aut → List Aut
  | r, [] => r
  | r, x :: s => sortR (insR x r) s
theorem sortR_perm : ∀ (s r : List Aut), (sortR r s).Perm (s ++ r)
  | [], r => List.Perm.refl _
  | x :: s, r => by
    refine (sortR_perm s (insR x r)).trans ?_
    refine ((insR_perm x r).append_left s).trans ?_
    simp
theorem sortR_sorted : ∀ {s r : List Aut}, RSorted r → RSorted (sortR r s)
  | [], _, h => h
  | x :: s, _, h => sortR_sorted (s := s) (insR_sorted h)
theorem insert_L1 {b : Nat} (hb : b ≤ 900) : ∀ (s r : List Aut) (fu : Nat), b = r.length + s.length → s.length < fu →
    slInsertion_L1 0 (b : Int) 1000 fu (r.length : Int) (r.reverse ++ s) = some (sortR r s).reverse
  | s, r, 0, _, h => by omega
  | [], r, fu + 1, h, _ => by
    simp only [List.length_nil, Nat.add_zero] at h
    simp only [slInsertion_L1, decide_eq_false (show ¬ (r.length : Int) < (b : Int) by omega), cond_false, sortR, List.append_nil]
  | x :: s, r, fu + 1, h, hf => by
    simp only [List.length_cons] at h hf
    simp only [slInsertion_L1, decide_eq_true (show (r.length : Int) < (b : Int) by omega), cond_true]
    have := insert_L2 (i := r.length) (q := s) (k := fun q_i1 q_v2 => slInsertion_L1 0 (b : Int) 1000 fu q_i1 q_v2) (x := x) r [] 1000 (by omega) (by omega)
    simp only [List.nil_append] at this
    rw [this]
    have w : IntKind.i64.wrap ((r.length : Int) + 1) = ((insR x r).length : Int) := by
      rw [(insR_perm x r).length_eq, wrap_id (by unfold okI; omega)]; simp
    rw [w]
    exact insert_L1 hb s (insR x r) fu (by rw [(insR_perm x r).length_eq]; simp; omega) (by omega)
/-- In the order of their beginnings. -/
def byFrom : List Aut → List Aut
  | [] => []
  | x :: s => (sortR [x] s).reverse
theorem byFrom_perm : ∀ l : List Aut, (byFrom l).Perm l
  | [] => List.Perm.refl _
  | x :: s => (List.reverse_perm _).trans ((sortR_perm s [x]).trans (by simp))
theorem byFrom_sorted : ∀ l : List Aut, (byFrom l).Pairwise fun a b => a.In.From ≤ b.In.From
  | [] => .nil
  | x :: s => by
    have := sortR_sorted (s := s) (r := [x]) (List.pairwise_singleton _ _)
    unfold byFrom
    rw [List.pairwise_reverse]
    exact this
theorem sortStable_eq {l : List Aut} (h : l.length ≤ 12) : slSortStable_XS l = some (byFrom l) := by
  have hins : slInsertion_XS l 0 (l.length : Int) = some (byFrom l) := by
    cases l with
    | nil => rfl
    | cons x s =>
      simp only [List.length_cons] at h ⊢
      have := insert_L1 (b := s.length + 1) (by omega) s [x] 1000 (by simp; omega) (by omega)
      exact this
  have e1 : decide ((20 : Int) ≤ (l.length : Int)) = false := decide_eq_false (by omega)
  have e2 : decide ((20 : Int) < (l.length : Int)) = false := decide_eq_false (by omega)
  have s2 : ∀ f N v, slStable_L2 (l.length : Int) N (f + 1) 20 v = some v := fun f N v => by simp only [slStable_L2, e2, cond_false]
  have s1 : ∀ f N, slStable_L1 (l.length : Int) N (f + 1) 0 20 l = Option.bind (some (byFrom l)) fun y7 => slStable_L2 (l.length : Int) N N 20 y7 := fun f N => by
    simp only [slStable_L1, e1, cond_false, hins]
  have : slStable_XS l (l.length : Int) = some (byFrom l) := (s1 999 1000).trans (s2 999 1000 _)
  simp only [slSortStable_XS, slSortStable_F, List.length_map, this, Option.bind_some]
theorem cloneA_eq {l : List Aut} (h : l.length ≤ 1000) : slCloneA_S l = some l := by
  have e : decide (([] : List Aut).length + l.length ≤ 4294967296) = true := decide_eq_true (by simp; omega)
  simp only [slCloneA_S, slCloneA_F, e, cond_true, List.nil_append]
  cases l with
  | nil => simp [oboth]
  | cons => rfl

theorem bif_beq {β : Type} (k x : Int) (A B : β) : (bif k == x then A else B) = if k = x then A else B := by
  by_cases h : k = x
  · subst h; simp
  · rw [beq_eq_false_iff_ne.2 h, cond_false, if_neg h]
theorem mget_mset (x v k : Int) : ∀ m : List (Int × Int), mget (mset m x v) k = if k = x then some v else mget m k
  | [] => by
    simp only [mset, mget, bif_beq]
  | p :: m => by
    have ih := mget_mset x v k m
    unfold mset
    by_cases hx : x = p.1
    · rw [bif_beq, if_pos hx]
      simp only [mget, bif_beq]
      by_cases h : k = x
      · rw [if_pos h, if_pos h]
      · rw [if_neg h, if_neg h, if_neg (fun e => h (e.trans hx.symm))]
    · rw [bif_beq, if_neg hx]
      simp only [mget, bif_beq, ih]
      by_cases h : k = p.1
      · rw [if_pos h, if_neg (fun e => hx (e.symm.trans h)), if_pos h]
      · rw [if_neg h, if_neg h]
/-- What a map holds for a key, 0 where it holds nothing. -/
def mval (m : List (Int × Int)) (k : Int) : Int := (mget m k).getD 0
theorem mval_mset (m : List (Int × Int)) (x v k : Int) : mval (mset m x v) k = if k = x then v else mval m k := by
  unfold mval
  rw [mget_mset]
  by_cases h : k = x <;> simp [h]
theorem mlk_eq (m : List (Int × Int)) (k : Int) : mlk m k 0 = some (mval m k) := rfl
theorem perm_sum {α : Type} {f : α → Nat} {l m : List α} (h : l.Perm m) : (l.map f).sum = (m.map f).sum := by
  induction h with
  | nil => rfl
  | cons x _ ih => simp only [List.map_cons, List.sum_cons, ih]
  | swap x y l => simp only [List.map_cons, List.sum_cons]; omega
  | trans _ _ h1 h2 => exact h1.trans h2
theorem perm_maxl {α : Type} {f : α → Nat} {l m : List α} (h : l.Perm m) : maxl f l = maxl f m := by
  induction h with
  | nil => rfl
  | cons x _ ih => simp only [maxl, ih]
  | swap x y l => simp only [maxl]; omega
  | trans _ _ h1 h2 => exact h1.trans h2
theorem sum_filter {α : Type} {f : α → Nat} {p : α → Bool} : ∀ l : List α, (l.map fun x => if p x = true then f x else 0).sum = ((l.filter p).map f).sum
  | [] => rfl
  | x :: l => by
    simp only [List.map_cons, List.sum_cons, List.filter_cons, sum_filter l]
    cases p x <;> simp
theorem maxl_filter {α : Type} {f : α → Nat} {p : α → Bool} : ∀ l : List α, maxl (fun x => if p x = true then f x else 0) l = maxl f (l.filter p)
  | [] => rfl
  | x :: l => by
    simp only [List.filter_cons]
    cases hp : p x with
    | true => simp only [if_true, maxl, hp, maxl_filter l]
    | false => simp [maxl, hp, maxl_filter l]
theorem maxl_map {α β : Type} {f : β → Nat} {g : α → β} : ∀ l : List α, maxl f (l.map g) = maxl (fun x => f (g x)) l
  | [] => rfl
  | x :: l => by simp only [List.map_cons, maxl, maxl_map l]
theorem maxl_append {α : Type} {f : α → Nat} : ∀ l m : List α, maxl f (l ++ m) = max (maxl f l) (maxl f m)
  | [], m => by simp [maxl]
  | x :: l, m => by simp only [List.cons_append, maxl, maxl_append l m]; omega
section
variable {l : List Aut}
/-- Whether one is a successor. -/
def isNx (k : Int) (a : Aut) : Bool := a.Next.any fun x => k == x
theorem isNx_iff {k : Int} {a : Aut} : isNx k a = true ↔ k ∈ a.Next := anyB
theorem pvA_sum {f : Int → Nat} (y : Int) : ((pvA l y).map f).sum = (l.map fun a => if isNx y a = true then f a.ID else 0).sum := by
  rw [sum_filter (f := fun a : Aut => f a.ID)]
  unfold pvA isNx
  rw [List.map_map]; rfl
theorem pvA_maxl {f : Int → Nat} (y : Int) : maxl f (pvA l y) = maxl (fun a : Aut => if isNx y a = true then f a.ID else 0) l := by
  rw [maxl_filter (f := fun a : Aut => f a.ID)]
  unfold pvA isNx
  rw [maxl_map]
/-- Behind a prefix in the order of beginnings there is none that one follows. -/
theorem no_later (h : Good l) {P Q : List Aut} {a : Aut} (hs : byFrom l = P ++ a :: Q) : ∀ b ∈ a :: Q, isNx a.ID b = false := by
  intro b hb
  rw [Bool.eq_false_iff]
  intro hc
  have hmem : ∀ x ∈ a :: Q, x ∈ l := fun x hx => (byFrom_perm l).mem_iff.1 (by rw [hs]; exact List.mem_append_right _ hx)
  have hbl := hmem b hb
  have hal := hmem a (by simp)
  have hr := h.dag.rk b.ID a.ID (by unfold nxA; rw [h.found hbl]; exact isNx_iff.1 hc)
  unfold rkA at hr
  rw [h.found hbl, h.found hal] at hr
  have hsrt := byFrom_sorted l
  rw [hs, List.pairwise_append] at hsrt
  have h2 := List.pairwise_cons.1 hsrt.2.1
  rcases List.mem_cons.1 hb with rfl | hb
  · omega
  · have := h2.1 b hb; omega
theorem share_R0 {a : Aut} (hnd : a.Next.Nodup) (hlen : a.Next.length ≤ 100) (hself : a.ID ∉ a.Next) : ∀ (n i fu : Nat) (m0 m : List (Int × Int)), a.Next.length - i = n → i ≤ a.Next.length → n < fu →
    0 ≤ mval m0 a.ID → (∀ k, 0 ≤ mval m0 k ∧ mval m0 k + mval m0 a.ID ≤ 1000000000000) → (∀ k, mval m k = mval m0 k + if k ∈ a.Next.take i then mval m0 a.ID else 0) →
      ∃ m', sShare_R0_L1 a fu (i : Int) m = some m' ∧ ∀ k, mval m' k = mval m0 k + if k ∈ a.Next then mval m0 a.ID else 0
  | n, i, 0, _, _, _, _, h, _, _, _ => by omega
  | 0, i, fu + 1, m0, m, h, hi, _, _, _, hm => by
    have hie : i = a.Next.length := by omega
    subst hie
    have h0 : decide ((a.Next.length : Int) < (a.Next.length : Int)) = false := decide_eq_false (by omega)
    refine ⟨m, by simp only [sShare_R0_L1, List.length_map, h0, cond_false], fun k => ?_⟩
    rw [hm k, List.take_length]
  | n + 1, i, fu + 1, m0, m, h, _, hf, hc, hb, hm => by
    have hi : i < a.Next.length := by omega
    have h0 : decide ((i : Int) < (a.Next.length : Int)) = true := decide_eq_true (by omega)
    have hni : a.Next[i] ∉ a.Next.take i := by
      intro hx
      obtain ⟨j, hj, he⟩ := List.getElem_of_mem hx
      rw [List.length_take] at hj
      rw [List.getElem_take] at he
      have := List.pairwise_iff_getElem.1 (List.nodup_iff_pairwise_ne.1 hnd) j i (by omega) hi (by omega)
      exact this he
    have hst : a.ID ∉ a.Next.take i := fun hx => hself (List.mem_of_mem_take hx)
    have e1 : mval m a.Next[i] = mval m0 a.Next[i] := by rw [hm, if_neg hni]; omega
    have e2 : mval m a.ID = mval m0 a.ID := by rw [hm, if_neg hst]; omega
    obtain ⟨b1, b2⟩ := hb a.Next[i]
    have w : IntKind.i64.wrap (mval m0 a.Next[i] + mval m0 a.ID) = mval m0 a.Next[i] + mval m0 a.ID := wrap_id (by unfold okI; omega)
    have hmin : (if (1099511627776 : Int) < mval m0 a.Next[i] + mval m0 a.ID then (1099511627776 : Int) else mval m0 a.Next[i] + mval m0 a.ID) = mval m0 a.Next[i] + mval m0 a.ID := if_neg (by omega)
    simp only [sShare_R0_L1, List.length_map, ix_at hi, Option.bind_some, h0, cond_true, mlk_eq, e1, e2, w, hmin, wrap_succ (n := a.Next.length) (by omega) hi]
    refine share_R0 hnd hlen hself n (i + 1) fu m0 _ (by omega) (by omega) (by omega) hc hb fun k => ?_
    have hmem : k ∈ a.Next.take (i + 1) ↔ k ∈ a.Next.take i ∨ k = a.Next[i] := by
      rw [List.take_succ_eq_append_getElem hi, List.mem_append, List.mem_singleton]
    rw [mval_mset, hm k]
    by_cases hk : k = a.Next[i]
    · rw [if_pos hk, if_pos (hmem.2 (.inr hk)), hk]
    · rw [if_neg hk]
      by_cases h2 : k ∈ a.Next.take i
      · rw [if_pos h2, if_pos (hmem.2 (.inl h2))]
      · rw [if_neg h2, if_neg (fun h => (hmem.1 h).elim h2 hk)]
/-- Shares, in the order of beginnings. -/
theorem share_loop (h : Good l) {fr : Int} (hfr : fr ∈ ids l) : ∀ (Q P : List Aut) (i fu : Nat) (m : List (Int × Int)), byFrom l = P ++ Q → P.length = i → Q.length < fu →
    (∀ k, mval m k = (((if fr = k then 1 else 0) + (P.map fun a => if isNx k a = true then tot (nxA l) fr a.ID else 0).sum : Nat) : Int)) →
      ∃ m', sinTime_1_L1 (byFrom l) fu (i : Int) m = some m' ∧ ∀ k, mval m' k = (tot (nxA l) fr k : Int)
  | Q, P, i, 0, _, _, _, h, _ => by omega
  | [], P, i, fu + 1, m, hs, hi, _, hm => by
    have hl : (byFrom l).length = i := by rw [hs]; simpa using hi
    have h0 : decide ((i : Int) < ((byFrom l).length : Int)) = false := decide_eq_false (by omega)
    refine ⟨m, by simp only [sinTime_1_L1, List.length_map, h0, cond_false], fun k => ?_⟩
    have hP : P.Perm l := by rw [List.append_nil] at hs; rw [← hs]; exact byFrom_perm l
    rw [hm k, tot_bwd h.dag k hfr, pvA_sum, perm_sum hP]
  | a :: Q, P, i, fu + 1, m, hs, hi, hf, hm => by
    have hbl : (byFrom l).length = l.length := (byFrom_perm l).length_eq
    have hbi : i < (byFrom l).length := by rw [hs]; simp; omega
    have hget : ix (byFrom l) (i : Int) = some a := by rw [hs]; exact ix_mid' hi
    have h0 : decide ((i : Int) < ((byFrom l).length : Int)) = true := decide_eq_true (by omega)
    have hal : a ∈ l := (byFrom_perm l).mem_iff.1 (by rw [hs]; simp)
    have hfa := h.found hal
    have hnl := no_later h hs
    have hfull : ∀ k, ((l.map fun b => if isNx k b = true then tot (nxA l) fr b.ID else 0).sum) = (P.map fun b => if isNx k b = true then tot (nxA l) fr b.ID else 0).sum + ((a :: Q).map fun b => if isNx k b = true then tot (nxA l) fr b.ID else 0).sum := fun k => by
      rw [← perm_sum (byFrom_perm l), hs, List.map_append, List.sum_append]
    have htk : ∀ k, tot (nxA l) fr k = (if fr = k then 1 else 0) + ((P.map fun b => if isNx k b = true then tot (nxA l) fr b.ID else 0).sum + ((a :: Q).map fun b => if isNx k b = true then tot (nxA l) fr b.ID else 0).sum) := fun k => by
      rw [← hfull, ← pvA_sum, ← tot_bwd h.dag k hfr]
    have hva : mval m a.ID = (tot (nxA l) fr a.ID : Int) := by
      have hz : ((a :: Q).map fun b => if isNx a.ID b = true then tot (nxA l) fr b.ID else 0).sum = 0 := sum_map_zero fun b hb => by rw [hnl b hb]; rfl
      rw [hm, htk a.ID, hz]
      rfl
    have hself : a.ID ∉ a.Next := fun hc => by
      have := hnl a (by simp)
      rw [isNx_iff.2 hc] at this
      cases this
    have hnd : a.Next.Nodup := nodup_lt (h.nxSrt hal)
    have hbd := fun k => tot_bd h.dag fr k
    obtain ⟨m', h1, h2⟩ := share_R0 hnd (by have := (tail_next (h.alone hal).2).1; omega) hself a.Next.length 0 1000 m m rfl (by omega) (by have := (tail_next (h.alone hal).2).1; omega) (by rw [hva]; omega) (fun k => by
      have q1 := hbd k; have q2 := hbd a.ID; have q3 := htk k
      rw [hva, hm k]
      omega) (fun k => by simp)
    have h1' : sShare_R0_XS m a = some m' := h1
    simp only [sinTime_1_L1, List.length_map, hget, Option.bind_some, h0, cond_true, h1', wrap_succ (n := (byFrom l).length) (by have := h.len; omega) hbi]
    refine share_loop h hfr Q (P ++ [a]) (i + 1) fu m' (by rw [hs]; simp) (by simp; omega) (by simp only [List.length_cons] at hf; omega) fun k => ?_
    rw [h2 k, hm k, hva, List.map_append, List.sum_append]
    simp only [List.map_cons, List.map_nil, List.sum_cons, List.sum_nil, Nat.add_zero]
    by_cases hk : k ∈ a.Next
    · rw [if_pos hk, if_pos (isNx_iff.2 hk)]; omega
    · have : isNx k a = false := by rw [Bool.eq_false_iff]; exact fun hc => hk (isNx_iff.1 hc)
      rw [if_neg hk, this]; simp
def shareG (l : List Aut) (a b : Int) : Int × Int := bif asksG l [a, b] != 0 then (0, asksG l [a, b]) else ((tot (nxA l) a b : Int), 0)
theorem sShare_eq (hl : okAuts l) (h12 : (checkF l).2 = 0 → l.length ≤ 12) (a b : Int) : sShare_S l a b = some (shareG l a b) := by
  simp only [sShare_S, sShare_F, sasks_eq hl h12 (is := [a, b]) (by simp), Option.bind_some, shareG]
  cases ha : asksG l [a, b] != 0 with
  | true => rfl
  | false =>
    obtain ⟨hr, hi⟩ := asks_zero (l := l) (is := [a, b]) (by simpa using ha)
    have h : Good l := ⟨hl, h12 hr, hr⟩
    have hlen := h.len
    obtain ⟨m', h1, h2⟩ := share_loop h (hi a (by simp)) (byFrom l) [] 0 1000 (mset ([] : List (Int × Int)) a 1) (by simp) rfl (by rw [(byFrom_perm l).length_eq]; omega) (fun k => by
      rw [mval_mset]
      by_cases hk : k = a
      · subst hk; simp
      · have hk' : ¬ a = k := fun e => hk e.symm
        simp [hk, hk', mval, mget])
    have h1' : sinTime_1_XS (mset ([] : List (Int × Int)) a 1) l = some m' := by
      simp only [sinTime_1_XS, sinTime_1_F, cloneA_eq (show l.length ≤ 1000 by omega), Option.bind_some, sortStable_eq hlen]
      exact h1
    simp only [cond_false, h1', Option.bind_some, mlk_eq, h2]
end
end Go.Proofs.YtdoldlbcjcfmdaaGreat
