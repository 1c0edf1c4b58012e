/- Plain facts on sizes and places. -/
import Derived.Test.YtangandfgbnomaaProg
import Derived.ArgAppend
import Derived.Below
import Derived.BigQuiet
import Derived.Deep.AppendLies
import Derived.Deep.CutBlock
import Derived.Deep.DeepCutAuto
import Derived.Deep.Draws
import Derived.Deep.LoopGhost
import Derived.Deep.OwnRows
import Derived.Deep.QuietTactic
import Derived.Deep.RegionHeld3
import Derived.KernelRfl
import Derived.Laws.BitsLemmas
import Derived.Laws.BytesArg
import Derived.Laws.IdiomCopy
import Derived.Laws.MakeOwn
import Derived.Laws.OwnMore
import Derived.Laws.Rows
import Derived.Laws.Slices
import Derived.Laws.Bits128
import Derived.Lib.AppendStr
import Derived.Lib.ConvBytes
import Derived.Maps.AppendAt
import Derived.OrdersHeld
import Derived.OwnWalk
import Derived.RowKit
import Derived.RowKit3
import Derived.Tactics
import Derived.WalkKit
import Derived.WideLaws
namespace Go.Proofs.Ytangandfgbnomaa.V
open Go.RowKit
set_option linter.unusedVariables false
set_option linter.unusedSimpArgs false

/-- Is it a size? -/
def vld (R C : Int) : Bool := decide (1 ≤ R ∧ R ≤ 43 ∧ 1 ≤ C ∧ C ≤ 132 ∧ R * C ≤ 3564)
theorem vld_iff {R C : Int} : vld R C = true ↔ (1 ≤ R ∧ R ≤ 43 ∧ 1 ≤ C ∧ C ≤ 132 ∧ R * C ≤ 3564) := by simp [vld]
theorem vld_pos {R C : Int} (h : vld R C = true) : 1 ≤ R ∧ R ≤ 43 ∧ 1 ≤ C ∧ C ≤ 132 ∧ 1 ≤ R * C ∧ R * C ≤ 3564 ∧ C ≤ R * C := by
  obtain ⟨a, b, c, d, e⟩ := vld_iff.1 h
  have h1 : C * 1 ≤ C * R := Int.mul_le_mul_of_nonneg_left (by omega) (by omega)
  rw [Int.mul_one, Int.mul_comm] at h1
  exact ⟨a, b, c, d, by omega, e, h1⟩

def cel (R C : Int) : Int := if vld R C = true then R * C else 0
def wrp (R C n : Int) : Int := if vld R C = true then n % (R * C) else 0
def att (R C r c : Int) : Int := if vld R C = true then r % R * C + c % C else 0
def row (R C n : Int) : Int := if vld R C = true then n % (R * C) / C else 0
def col (R C n : Int) : Int := if vld R C = true then n % (R * C) % C else 0
def mov (R C n a b : Int) : Int := if vld R C = true then ((n + b) % (R * C) / C + a % R) % R * C + (n + b) % (R * C) % C else 0
def lin (R C n : Int) : Int := if vld R C = true then (n % (R * C) / C + 1) % R * C else 0
def len (R C a b : Int) : Int := if vld R C = true then (if (b - a) % (R * C) = 0 then R * C else (b - a) % (R * C)) else 0

theorem mul_bound {a b : Int} (h1 : 1 ≤ a) (h2 : a ≤ 43) (h3 : 1 ≤ b) (h4 : b ≤ 132) : 1 ≤ a * b ∧ a * b ≤ 5676 := by
  have e1 : a * b ≤ 43 * b := Int.mul_le_mul_of_nonneg_right h2 (by omega)
  have e2 : 1 * b ≤ a * b := Int.mul_le_mul_of_nonneg_right h1 (by omega)
  omega

theorem in_place (R C n : Int) (h : vld R C = true) : 0 ≤ n % (R * C) ∧ n % (R * C) < R * C ∧ 0 ≤ n % (R * C) / C ∧ n % (R * C) / C < R ∧ 0 ≤ n % (R * C) % C ∧ n % (R * C) % C < C := by
  have hp := vld_pos h
  have n0 := Int.emod_nonneg n (by omega : R * C ≠ 0)
  have n1 := Int.emod_lt_of_pos n (by omega : 0 < R * C)
  exact ⟨n0, n1, Int.ediv_nonneg n0 (by omega), Int.ediv_lt_of_lt_mul (by omega) n1, Int.emod_nonneg _ (by omega), Int.emod_lt_of_pos _ (by omega)⟩

theorem wrap64_id {n : Int} (h : -9223372036854775808 ≤ n) (h' : n ≤ 9223372036854775807) : wrap64 n = n := by
  unfold wrap64; omega

/-- Go's remainder, brought into the range from 0 on. -/
theorem tmod_up (a b : Int) (hb : 0 < b) : (Int.tmod a b + b).tmod b = a % b := by
  have hr := Int.emod_nonneg a (by omega : b ≠ 0)
  have hl := Int.emod_lt_of_pos a hb
  rcases Int.le_total 0 a with h | h
  · rw [Int.tmod_eq_emod_of_nonneg h, Int.tmod_eq_emod_of_nonneg (by omega), Int.add_emod_right, Int.emod_emod]
  · obtain ⟨m, rfl⟩ : ∃ m, a = -m := ⟨-a, by omega⟩
    have hm := Int.emod_nonneg m (by omega : b ≠ 0)
    have hm' := Int.emod_lt_of_pos m hb
    rw [Int.neg_tmod, Int.tmod_eq_emod_of_nonneg (by omega : 0 ≤ m), Int.tmod_eq_emod_of_nonneg (by omega)]
    rw [Int.add_emod_right]
    conv => rhs; rw [← Int.mul_ediv_add_emod m b, Int.neg_add, ← Int.mul_neg, Int.add_comm, Int.add_mul_emod_self_left]

theorem tmod_range (a b : Int) (hb : 0 < b) : -b < Int.tmod a b ∧ Int.tmod a b < b := by
  have hl := Int.emod_lt_of_pos a hb
  have hr := Int.emod_nonneg a (by omega : b ≠ 0)
  rcases Int.le_total 0 a with h | h
  · rw [Int.tmod_eq_emod_of_nonneg h]; omega
  · obtain ⟨m, rfl⟩ : ∃ m, a = -m := ⟨-a, by omega⟩
    have hm := Int.emod_nonneg m (by omega : b ≠ 0)
    have hm' := Int.emod_lt_of_pos m hb
    rw [Int.neg_tmod, Int.tmod_eq_emod_of_nonneg (by omega : 0 ≤ m)]; omega

theorem rest_eq (a b : Int) (hb : 0 < b) : a % b = if Int.tmod a b < 0 then Int.tmod a b + b else Int.tmod a b := by
  have hr := tmod_range a b hb
  have hu := tmod_up a b hb
  by_cases h : Int.tmod a b < 0
  · rw [if_pos h]
    rw [Int.tmod_eq_of_lt (by omega) (by omega)] at hu
    rw [hu]
  · rw [if_neg h]
    have h0 : 0 ≤ a ∨ Int.tmod a b = 0 := by
      rcases Int.le_total 0 a with h1 | h1
      · exact .inl h1
      · refine .inr ?_
        obtain ⟨m, rfl⟩ : ∃ m, a = -m := ⟨-a, by omega⟩
        rw [Int.neg_tmod] at h ⊢
        have := Int.tmod_nonneg b (by omega : 0 ≤ m)
        omega
    rcases h0 with h1 | h1
    · rw [Int.tmod_eq_emod_of_nonneg h1]
    · rw [h1]
      have := Int.emod_emod_of_dvd a (Int.dvd_refl b)
      exact Int.emod_eq_zero_of_dvd (Int.dvd_of_tmod_eq_zero h1)
/-- A fact laid aside: no rule of the walk. -/
structure Aside0 (p : Prop) : Prop where mk :: (out : p)
/-- A size, by value. -/
abbrev sz (R C : Int) : Value := .agg #[.int .i64 R, .int .i64 C]

theorem bcell {W w1 : World} (hb : Below W.heap.size W w1) : (∀ b o, b < W.heap.size → w1.cell? ⟨b, o, none⟩ = W.cell? ⟨b, o, none⟩) ∧ (∀ b o, b < W.heap.size → w1.frozen? ⟨b, o, none⟩ = W.frozen? ⟨b, o, none⟩) :=
  ⟨fun b o h => hb.cell (p := ⟨b, o, none⟩) h, fun b o h => hb.frozen (p := ⟨b, o, none⟩) h⟩

/-- What a call leaves that has turned nothing: old cells, old marks, the heap's size. -/
theorem after {W w1 : World} (hb : Below W.heap.size W w1) : (∀ b o, b < W.heap.size → w1.cell? ⟨b, o, none⟩ = W.cell? ⟨b, o, none⟩) ∧ (∀ b o, b < W.heap.size → w1.frozen? ⟨b, o, none⟩ = W.frozen? ⟨b, o, none⟩) ∧ W.heap.size ≤ w1.heap.size :=
  ⟨fun b o h => hb.cell (p := ⟨b, o, none⟩) h, fun b o h => hb.frozen (p := ⟨b, o, none⟩) h, hb.size⟩

/-- One operation of a quiet walk that reads: the value that it yields in every world of the class. -/
theorem quiet_of {P : Program} {K₀ : World → Prop} {o : Oper} {a : Act} {K : Act → Prop} {v : Value} (h : ∀ W, K₀ W → (execOp a.eval o).run P W = .ok (.value v) W) (hk : K (a.put o.dst v)) : o.quiet P a K₀ K :=
  ⟨v, fun W hW => by unfold Oper.quietAt; rw [h W hW]; exact ⟨rfl, rfl⟩, hk⟩



end Go.Proofs.Ytangandfgbnomaa.V
