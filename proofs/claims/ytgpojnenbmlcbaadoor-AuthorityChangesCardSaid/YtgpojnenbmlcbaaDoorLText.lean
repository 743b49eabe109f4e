/- Numbers in decimal, and the text of an authority: both ways agree. -/
import Derived.Test.YtgpojnenbmlcbaaDoorLOne
import Derived.Test.YtgpojnenbmlcbaaDoorGE
namespace Go.Proofs.YtgpojnenbmlcbaaDoor
open Go Go.Abs

theorem bT {p : Prop} [Decidable p] {α : Type} {x y : α} (h : p) : (bif decide p then x else y) = x := by rw [decide_eq_true h]; rfl
theorem bF {p : Prop} [Decidable p] {α : Type} {x y : α} (h : ¬ p) : (bif decide p then x else y) = y := by rw [decide_eq_false h]; rfl
theorem dig_fin : ∀ d : Fin 10, b2s [IntKind.u8.wrap (IntKind.i64.wrap (48 + (d.val : Int)))] = [UInt8.ofNat (48 + d.val)] := by decide
theorem dig {d : Nat} (h : d < 10) : b2s [IntKind.u8.wrap (IntKind.i64.wrap (48 + (d : Int)))] = [UInt8.ofNat (48 + d)] := dig_fin ⟨d, h⟩
theorem digits_len : ∀ (N m : Nat), 1 ≤ N → m < 10 ^ N → (Lib.decDigits m).length ≤ N
  | 0, _, h, _ => by omega
  | N + 1, m, _, h => by
    by_cases hm : m < 10
    · rw [Lib.decDigits_one hm]; simp
    · have hN : 1 ≤ N := by
        rcases N with _ | N
        · simp at h; omega
        · omega
      rw [Lib.decDigits, dif_neg hm, List.length_append, List.length_singleton]
      have := digits_len N (m / 10) hN (by rw [Nat.pow_succ] at h; omega)
      omega
theorem rDecimal_eq : ∀ (N m : Nat), 1 ≤ N → N ≤ 30 → m < 10 ^ N → m ≤ 9223372036854775807 → rDecimal_F N (m : Int) = some (Lib.decDigits m)
  | 0, _, h, _, _, _ => by omega
  | N + 1, m, _, h30, h, hm => by
    rw [rDecimal_F]
    by_cases h10 : m < 10
    · rw [bT (by omega), dig h10, Lib.decDigits_one h10]
    · have hN : 1 ≤ N := by
        rcases N with _ | N
        · simp at h; omega
        · omega
      have e1 : IntKind.i64.wrap (Int.tdiv (m : Int) 10) = ((m / 10 : Nat) : Int) := by
        have : Int.tdiv (m : Int) 10 = ((m / 10 : Nat) : Int) := rfl
        rw [this, wrap_id (by unfold okI; omega)]
      have e2 : Int.tmod (m : Int) 10 = ((m % 10 : Nat) : Int) := rfl
      have p10 : 10 ≤ 10 ^ N := by
        have := Nat.pow_le_pow_right (n := 10) (by decide) hN
        simpa using this
      have l1 := digits_len N (m / 10) hN (by rw [Nat.pow_succ] at h; omega)
      rw [bF (by omega), e1, e2, rDecimal_eq N (m / 10) hN (by omega) (by rw [Nat.pow_succ] at h; omega) (by omega), rDecimal_eq N (m % 10) hN (by omega) (by omega) (by omega)]
      simp only [Option.bind_some]
      rw [Lib.decDigits_one (i := m % 10) (by omega), bT (by simp; omega)]
      conv => rhs; rw [Lib.decDigits, dif_neg h10]
theorem rsigned_zero {fu : Nat} {s : List Int} (h : s.length ≤ 1000) : rsigned_L1 (fu + 1) 0 s = some (45 :: b2s s) := by
  have hb : (b2s s).length = s.length := by simp [b2s]
  simp only [rsigned_L1, bne_self_eq_false, cond_false]
  rw [bT (by simp; omega)]; rfl
theorem rsigned_loop : ∀ (fu k : Nat) (s : List Int), 1 ≤ k → k < 10 ^ fu → k ≤ 9223372036854775808 → s.length + fu ≤ 1000 → rsigned_L1 (fu + 1) (-(k : Int)) s = some (45 :: (Lib.decDigits k ++ b2s s))
  | 0, k, _, h1, h, _, _ => by simp at h; omega
  | fu + 1, k, s, h1, h, hk, hs => by
    have e0 : (-(k : Int) != 0) = true := by simp; omega
    have e1 : IntKind.i64.wrap (Int.tdiv (-(k : Int)) 10) = -((k / 10 : Nat) : Int) := by
      have : Int.tdiv (-(k : Int)) 10 = -((k / 10 : Nat) : Int) := by rw [Int.neg_tdiv]; rfl
      rw [this, wrap_id (by unfold okI; omega)]
    have e2 : (48 : Int) - Int.tmod (-(k : Int)) 10 = 48 + ((k % 10 : Nat) : Int) := by
      have : Int.tmod (-(k : Int)) 10 = -((k % 10 : Nat) : Int) := by rw [Int.neg_tmod]; rfl
      omega
    have eb : b2s (([IntKind.u8.wrap (IntKind.i64.wrap (48 + ((k % 10 : Nat) : Int)))] : List Int) ++ s) = [UInt8.ofNat (48 + k % 10)] ++ b2s s := by
      rw [← dig (d := k % 10) (by omega)]; simp [b2s]
    rw [rsigned_L1, e0, cond_true, bT (by simp; omega), e1, e2]
    by_cases h10 : k < 10
    · have : k / 10 = 0 := by omega
      rw [this, show -((0 : Nat) : Int) = 0 from rfl, rsigned_zero (by simp; omega), eb, Lib.decDigits_one h10, Nat.mod_eq_of_lt h10]
    · rw [rsigned_loop fu (k / 10) _ (by omega) (by rw [Nat.pow_succ] at h; omega) (by omega) (by simp; omega), eb]
      conv => rhs; rw [Lib.decDigits, dif_neg h10]
      simp
theorem rsigned_eq {n : Int} (h : okI n) : rsigned_S n = some (Lib.itoa n) := by
  obtain ⟨h1, h2⟩ := h
  simp only [rsigned_S, rsigned_F, Lib.itoa]
  by_cases hn : n < 0
  · rw [bT hn, if_pos hn]
    have e : n = -((n.natAbs : Nat) : Int) := by omega
    conv => lhs; rw [e]
    have p : (10 : Nat) ^ 29 = 100000000000000000000000000000 := by decide
    rw [rsigned_loop 29 n.natAbs [] (by omega) (by omega) (by omega) (by simp)]
    simp [b2s]
  · rw [bF hn, if_neg hn]
    have e : n = ((n.toNat : Nat) : Int) := by omega
    conv => lhs; rw [e]
    have p : (10 : Nat) ^ 30 = 1000000000000000000000000000000 := by decide
    rw [show rDecimal_S = rDecimal_F 30 from rfl, rDecimal_eq 30 n.toNat (by decide) (by decide) (by omega) (by omega)]
    rfl
theorem itoa_eq {n : Int} (h : okI n) : itoa_S n = some (Lib.itoa n) := by
  obtain ⟨h1, h2⟩ := h
  simp only [itoa_S, decide_eq_true h1, decide_eq_true h2, Bool.and_true, cond_true]
theorem itoa_len {n : Int} (h : okI n) : (Lib.itoa n).length ≤ 30 := by
  obtain ⟨h1, h2⟩ := h
  have p : (10 : Nat) ^ 20 = 100000000000000000000 := by decide
  unfold Lib.itoa
  split
  · have := digits_len 20 n.natAbs (by decide) (by omega)
    rw [List.length_cons]; omega
  · have := digits_len 20 n.toNat (by decide) (by omega)
    omega
/-- The text of a name. -/
def piece (x : Nam) : Str := (((x.Text ++ [32]) ++ Lib.itoa x.In.From) ++ [45]) ++ (bif decide (x.In.Until < 1048576) then Lib.itoa x.In.Until else [])
theorem piece_len {x : Nam} (h : okNam x) (hx : x.Text.length ≤ 100) : (piece x).length ≤ 200 := by
  have h1 := itoa_len h.2.1
  have h2 := itoa_len h.2.2
  unfold piece
  cases decide (x.In.Until < 1048576) <;> simp <;> omega
theorem pieces_len : ∀ (l : List Nam), (∀ x ∈ l, (piece x).length ≤ 200) → ((l.map fun x => ([59, 32] : Str) ++ piece x).flatten).length ≤ 202 * l.length
  | [], _ => by simp
  | x :: r, h => by
    have h1 := pieces_len r fun y hy => h y (List.mem_cons_of_mem _ hy)
    have h2 := h x List.mem_cons_self
    simp only [List.map_cons, List.flatten_cons, List.length_append, List.length_cons, List.length_nil] at *
    omega
theorem inter_cons (sep : Str) : ∀ (ps : List Str) (p : Str), sep.intercalate (p :: ps) = p ++ (ps.map (sep ++ ·)).flatten
  | [], p => by simp [List.intercalate]
  | q :: ps, p => by
    have := inter_cons sep ps q
    simp only [List.intercalate, List.intersperse, List.flatten_cons, List.map_cons] at *
    rw [this]; simp
theorem join_text : ∀ (l : List Nam), Lib.join (l.map piece) [59, 32] = match l with | [] => [] | x :: r => piece x ++ (r.map fun x => ([59, 32] : Str) ++ piece x).flatten
  | [] => by rfl
  | x :: r => by
    show List.intercalate _ _ = _
    rw [List.map_cons, inter_cons, List.map_map]; rfl
theorem pText_loop {a : Aut} (ha : okAut a) (hf : fewOf a = true) : ∀ (n i fu : Nat) (out : List Str), a.Names.length - i = n → i ≤ a.Names.length → n < fu → out.length ≤ i →
    pText_L1 a fu out (i : Int) = join_S (out ++ (a.Names.drop i).map piece) [59, 32]
  | _, _, 0, _, _, _, h, _ => by omega
  | n, i, fu + 1, out, hn, hi, hfu, ho => by
    obtain ⟨hl, _, ht⟩ := fewOf_names hf
    rw [pText_L1, List.length_map]
    by_cases hlt : i < a.Names.length
    · have hm := List.getElem_mem hlt
      have hx := ht _ hm
      have hok := ha.2.2.2.1.2 _ hm
      have l1 := itoa_len hok.2.1
      have l2 := itoa_len hok.2.2
      rw [bT (by omega), ix_at hlt]
      simp only [Option.bind_some, itoa_eq hok.2.1, itoa_eq hok.2.2, wrap_succ (n := a.Names.length) (by omega) hlt]
      rw [bT (by simp; omega), bT (by simp; omega), bT (by simp; omega)]
      rw [List.drop_eq_getElem_cons hlt, List.map_cons]
      by_cases hu : a.Names[i].In.Until < 1048576
      · rw [bT hu, bT (by simp; omega), bT (by simp; omega)]
        rw [pText_loop ha hf (n - 1) (i + 1) fu _ (by omega) (by omega) (by omega) (by simp; omega)]
        simp [piece, hu]
      · rw [bF hu, bT (by simp; omega)]
        rw [pText_loop ha hf (n - 1) (i + 1) fu _ (by omega) (by omega) (by omega) (by simp; omega)]
        simp [piece, hu]
    · rw [bF (by omega)]
      have : i = a.Names.length := by omega
      subst this
      rw [List.drop_length, List.map_nil, List.append_nil]
      cases join_S out [59, 32] <;> rfl
theorem rText_loop {a : Aut} (ha : okAut a) (hf : fewOf a = true) : ∀ (n i fu : Nat) (out : Str), a.Names.length - i = n → 1 ≤ i → i ≤ a.Names.length → n < fu → out.length ≤ 300 * i →
    rText_L1 a fu out (i : Int) = some (out ++ ((a.Names.drop i).map fun x => ([59, 32] : Str) ++ piece x).flatten)
  | _, _, 0, _, _, _, _, h, _ => by omega
  | n, i, fu + 1, out, hn, h1, hi, hfu, ho => by
    obtain ⟨hl, _, ht⟩ := fewOf_names hf
    rw [rText_L1, List.length_map]
    by_cases hlt : i < a.Names.length
    · have hm := List.getElem_mem hlt
      have hx := ht _ hm
      have hok := ha.2.2.2.1.2 _ hm
      have l1 := itoa_len hok.2.1
      have l2 := itoa_len hok.2.2
      rw [bT (by omega), bT (by omega), ix_at hlt]
      simp only [Option.bind_some, rsigned_eq hok.2.1, rsigned_eq hok.2.2, wrap_succ (n := a.Names.length) (by omega) hlt]
      rw [bT (by simp; omega), bT (by simp; omega), bT (by simp; omega), bT (by simp; omega), bT (by simp; omega)]
      rw [List.drop_eq_getElem_cons hlt, List.map_cons]
      by_cases hu : a.Names[i].In.Until < 1048576
      · rw [bT hu, bT (by simp; omega)]
        rw [rText_loop ha hf (n - 1) (i + 1) fu _ (by omega) (by omega) (by omega) (by omega) (by simp; omega)]
        simp [piece, hu]
      · rw [bF hu]
        rw [rText_loop ha hf (n - 1) (i + 1) fu _ (by omega) (by omega) (by omega) (by omega) (by simp; omega)]
        simp [piece, hu]
    · rw [bF (by omega)]
      have : i = a.Names.length := by omega
      subst this
      rw [List.drop_length]; simp
theorem pText_eq {a : Aut} (ha : okAut a) (hf : fewOf a = true) : pText_S a = some (Lib.join (a.Names.map piece) [59, 32]) := by
  obtain ⟨hl, _, ht⟩ := fewOf_names hf
  have h := pText_loop ha hf a.Names.length 0 (a.Names.length + 1) [] (by omega) (by omega) (by omega) (by simp)
  have hp : ∀ x ∈ a.Names, (piece x).length ≤ 200 := fun x hx => piece_len (ha.2.2.2.1.2 x hx) (ht x hx)
  have hj : (Lib.join (a.Names.map piece) [59, 32]).length ≤ 10000 := by
    rw [join_text]
    cases hn : a.Names with
    | nil => simp
    | cons x r =>
      rw [hn] at hp hl
      have q1 := hp x List.mem_cons_self
      have q2 := pieces_len r fun y hy => hp y (List.mem_cons_of_mem _ hy)
      rw [List.length_cons] at hl
      simp only [List.length_append]
      omega
  simp only [pText_S, pText_F]
  refine h.trans ?_
  simp only [join_S, List.nil_append, List.drop_zero]
  rw [decide_eq_true (by simp; omega), decide_eq_true (by omega)]; rfl
theorem rText_eq {a : Aut} (ha : okAut a) (hf : fewOf a = true) : rText_S a = some (Lib.join (a.Names.map piece) [59, 32]) := by
  obtain ⟨hl, _, ht⟩ := fewOf_names hf
  rw [join_text]
  simp only [rText_S, rText_F]
  by_cases hn : 0 < a.Names.length
  · have hm := List.getElem_mem hn
    have hx := ht _ hm
    have hok := ha.2.2.2.1.2 _ hm
    have l1 := itoa_len hok.2.1
    have l2 := itoa_len hok.2.2
    have hd : a.Names = a.Names[0] :: a.Names.drop 1 := by
      have := List.drop_eq_getElem_cons hn
      simpa using this
    rw [rText_L1, List.length_map, bT (by omega), bF (by omega), show ix a.Names 0 = some a.Names[0] from ix_at hn]
    simp only [Option.bind_some, rsigned_eq hok.2.1, rsigned_eq hok.2.2, show IntKind.i64.wrap (0 + 1) = ((1 : Nat) : Int) from rfl]
    rw [bT (by simp; omega), bT (by simp; omega), bT (by simp; omega), bT (by simp; omega)]
    have hg : (match a.Names with | [] => ([] : Str) | x :: r => piece x ++ (r.map fun x => ([59, 32] : Str) ++ piece x).flatten) = piece a.Names[0] ++ ((a.Names.drop 1).map fun x => ([59, 32] : Str) ++ piece x).flatten := by
      generalize a.Names[0] = x at *
      generalize a.Names.drop 1 = r at *
      rw [hd]
    by_cases hu : a.Names[0].In.Until < 1048576
    · rw [bT hu, bT (by simp; omega), rText_loop ha hf (a.Names.length - 1) 1 _ _ (by omega) (by omega) (by omega) (by omega) (by simp; omega)]
      refine congrArg some (Eq.trans ?_ hg.symm)
      simp [piece, hu]
    · rw [bF hu, rText_loop ha hf (a.Names.length - 1) 1 _ _ (by omega) (by omega) (by omega) (by omega) (by simp; omega)]
      refine congrArg some (Eq.trans ?_ hg.symm)
      simp [piece, hu]
  · have h0 : a.Names = [] := List.eq_nil_of_length_eq_zero (by omega)
    rw [h0]
    simp only [List.length_nil]
    rw [rText_L1, h0]; rfl
end Go.Proofs.YtgpojnenbmlcbaaDoor
