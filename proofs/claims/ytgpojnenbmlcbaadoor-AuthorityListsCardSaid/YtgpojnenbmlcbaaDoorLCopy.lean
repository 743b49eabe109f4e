/- The copy of a list that is few is the list; spans; names. -/
import Derived.Test.YtgpojnenbmlcbaaDoorLBase
namespace Go.Proofs.YtgpojnenbmlcbaaDoor
open Go Go.Abs

theorem few_mem {l : List Aut} (h : few l = true) {a : Aut} (ha : a ∈ l) : fewOf a = true := by
  simp only [few, Bool.and_eq_true, List.all_eq_true] at h
  exact h.1 a ha
theorem few_len {l : List Aut} (h : few l = true) : l.length ≤ 65 := by
  simp only [few, Bool.and_eq_true, Bool.or_eq_true, decide_eq_true_eq] at h
  omega
theorem fewOf_names {a : Aut} (h : fewOf a = true) : a.Names.length ≤ 17 ∧ a.Next.length ≤ 17 ∧ ∀ n ∈ a.Names, n.Text.length ≤ 100 := by
  simp only [fewOf, Bool.and_eq_true, List.all_eq_true, decide_eq_true_eq] at h
  exact ⟨h.2.1, h.2.2, h.1⟩
theorem rCopy_loop {l : List Aut} (h : few l = true) : ∀ (n i fu : Nat) (out : List Aut), l.length - i = n → i ≤ l.length → n < fu → out.length = i → rCopy_L1 l fu out (i : Int) = some (out ++ l.drop i)
  | n, i, 0, _, _, _, h, _ => by omega
  | 0, i, fu + 1, out, hn, hi, _, _ => by
    have : i = l.length := by omega
    subst this
    have h0 : decide ((l.length : Int) < (l.length : Int)) = false := decide_eq_false (by omega)
    simp only [rCopy_L1, List.length_map, h0, cond_false, List.drop_length, List.append_nil]
  | n + 1, i, fu + 1, out, hn, _, hf, ho => by
    have hl := few_len h
    have hi : i < l.length := by omega
    have h0 : decide ((i : Int) < (l.length : Int)) = true := decide_eq_true (by omega)
    obtain ⟨f1, f2, _⟩ := fewOf_names (few_mem h (List.getElem_mem hi))
    have e1 : decide (([] : List Nam).length + l[i].Names.length ≤ 4294967296) = true := decide_eq_true (by simp; omega)
    have e2 : decide (([] : List Int).length + l[i].Next.length ≤ 4294967296) = true := decide_eq_true (by simp; omega)
    have e3 : ∀ a : Aut, decide (out.length + ([a] : List Aut).length ≤ 4294967296) = true := fun a => decide_eq_true (by simp; omega)
    have hL : l.length ≤ 9223372036854775807 := by omega
    simp only [rCopy_L1, List.length_map, ix_at hi, Option.bind_some, h0, cond_true, e1, e2, e3, wrap_succ hL hi, List.nil_append]
    rw [rCopy_loop h n (i + 1) fu _ (by omega) (by omega) (by omega) (by simp [ho]), List.drop_eq_getElem_cons hi, List.append_assoc]
    rfl
theorem rCopy_eq {l : List Aut} (h : few l = true) : rCopy_S l = some l := by
  have := rCopy_loop h l.length 0 (l.length + 1) [] (by omega) (by omega) (by omega) rfl
  show rCopy_L1 l (l.length + 1) [] 0 = some l
  simpa using this

def spanOk (x : Span) : Bool := decide (0 ≤ x.From) && (decide (x.From < x.Until) && decide (x.Until ≤ 1048576))
theorem pspans_eq (x : Span) : pspans_S x = some (spanOk x) := by
  simp only [pspans_S, pspans_F, spanOk]
  by_cases h1 : 0 ≤ x.From <;> by_cases h2 : x.From < x.Until <;> simp [h1, h2]
theorem rIsSpan_eq (x : Span) : rIsSpan_S x = some (spanOk x) := by
  simp only [rIsSpan_S, rIsSpan_F, spanOk]
  by_cases h1 : 0 ≤ x.From <;> by_cases h2 : x.From < x.Until <;> simp [h1, h2]
theorem pwithin_eq (n a b : Int) : pwithin_S n a b = some (decide (a ≤ n) && decide (n ≤ b)) := by
  simp only [pwithin_S, pwithin_F]
  by_cases h1 : a ≤ n <;> simp [h1]
def onSpan (x : Span) (day : Int) : Bool := decide (x.From ≤ day) && decide (day < x.Until)
theorem pin_eq (x : Span) (day : Int) : pin_S x day = some (onSpan x day) := by
  simp only [pin_S, pin_F, onSpan]
  by_cases h1 : x.From ≤ day <;> simp [h1]
theorem rOn_eq (x : Span) (day : Int) : rOn_S x day = some (onSpan x day) := by
  simp only [rOn_S, rOn_F, onSpan]
  by_cases h1 : x.From ≤ day <;> simp [h1]
end Go.Proofs.YtgpojnenbmlcbaaDoor
