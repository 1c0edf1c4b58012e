/- Acts, one behind the other: plain. -/
import Derived.Test.YtangandfgbnomaaVU
namespace Go.Proofs.Ytangandfgbnomaa.V
open Go.RowKit
set_option linter.unusedVariables false
set_option linter.unusedSimpArgs false

/-- Acts, one behind the other. -/
def S.acts (s : S) (us : List Ac) : S := us.foldl S.act s
theorem S.acts_snoc (s : S) (us : List Ac) (a : Ac) : s.acts (us ++ [a]) = (s.acts us).act a := by unfold S.acts; rw [List.foldl_append]; rfl
theorem S.acts_model (us : List Ac) : ∀ s : S, (s.acts us).model = s.model := by
  induction us with
  | nil => intro s; rfl
  | cons a us ih => intro s; show ((s.act a).acts us).model = _; rw [ih, S.act_model]
theorem S.ok.acts (us : List Ac) : ∀ {s : S}, s.ok → 2 ≤ s.model ∧ s.model ≤ 5 → (∀ a ∈ us, a.fine) → (s.acts us).ok := by
  induction us with
  | nil => intro s h _ _; exact h
  | cons a us ih =>
    intro s h hm hf
    exact ih (h.act hm a (hf a (List.mem_cons_self ..))) (by rw [S.act_model]; exact hm) (fun x hx => hf x (List.mem_cons_of_mem _ hx))
/-- The first k acts, a round further. -/
theorem S.acts_take (s : S) (us : List Ac) (k i : Nat) (hi : i < us.length) : s.acts (us.take (min (i + 1) k)) = if (i : Int) < (k : Int) then (s.acts (us.take (min i k))).act us[i] else s.acts (us.take (min i k)) := by
  by_cases h : i < k
  · rw [if_pos (by omega), Nat.min_eq_left (by omega), Nat.min_eq_left (by omega), ← S.acts_snoc]
    congr 1
    rw [List.take_add_one, List.getElem?_eq_getElem hi]; rfl
  · rw [if_neg (by omega), Nat.min_eq_right (by omega), Nat.min_eq_right (by omega)]


end Go.Proofs.Ytangandfgbnomaa.V
