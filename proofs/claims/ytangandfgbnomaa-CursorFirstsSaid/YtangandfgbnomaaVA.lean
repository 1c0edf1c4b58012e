/- Plain facts on sizes and places: what the functions of addr and of its reference come to, and the laws of remainders that they obey. -/
import Derived.Test.YtangandfgbnomaaV2
import Derived.Test.YtangandfgbnomaaVC
namespace Go.Proofs.Ytangandfgbnomaa.V
open Go.RowKit Go.Proofs.YtangandfgbnomaaW.PrintWords Go.Proofs.YtangandfgbnomaaW.PrintLast Go.Proofs.YtangandfgbnomaaW.PrintMore

/-- Is it a size? -/
def vld (R C : Int) : Bool := decide (1 ≤ R ∧ R ≤ 43 ∧ 1 ≤ C ∧ C ≤ 132 ∧ R * C ≤ 3564)
theorem vld_iff {R C : Int} : vld R C = true ↔ (1 ≤ R ∧ R ≤ 43 ∧ 1 ≤ C ∧ C ≤ 132 ∧ R * C ≤ 3564) := by simp [vld]
theorem vld_pos {R C : Int} (h : vld R C = true) : 1 ≤ R ∧ R ≤ 43 ∧ 1 ≤ C ∧ C ≤ 132 ∧ 1 ≤ R * C ∧ R * C ≤ 3564 ∧ C ≤ R * C := by
  obtain ⟨a, b, c, d, e⟩ := vld_iff.1 h
  have h1 : C * 1 ≤ C * R := Int.mul_le_mul_of_nonneg_left (by omega) (by omega)
  rw [Int.mul_one, Int.mul_comm] at h1
  exact ⟨a, b, c, d, by omega, e, h1⟩

def cel (R C : Int) : Int := if vld R C = true then R * C else 0
def wrp (R C n : Int) : Int := if vld R C = true then n % (R * C) else 0
def att (R C r c : Int) : Int := if vld R C = true then r % R * C + c % C else 0
def row (R C n : Int) : Int := if vld R C = true then n % (R * C) / C else 0
def col (R C n : Int) : Int := if vld R C = true then n % (R * C) % C else 0
def mov (R C n a b : Int) : Int := if vld R C = true then ((n + b) % (R * C) / C + a % R) % R * C + (n + b) % (R * C) % C else 0
def lin (R C n : Int) : Int := if vld R C = true then (n % (R * C) / C + 1) % R * C else 0
def len (R C a b : Int) : Int := if vld R C = true then (if (b - a) % (R * C) = 0 then R * C else (b - a) % (R * C)) else 0

theorem mul_bound {a b : Int} (h1 : 1 ≤ a) (h2 : a ≤ 43) (h3 : 1 ≤ b) (h4 : b ≤ 132) : 1 ≤ a * b ∧ a * b ≤ 5676 := by
  have e1 : a * b ≤ 43 * b := Int.mul_le_mul_of_nonneg_right h2 (by omega)
  have e2 : 1 * b ≤ a * b := Int.mul_le_mul_of_nonneg_right h1 (by omega)
  omega

theorem valid_f (R C : Int) : addr_Size_Valid.f R C = some (vld R C) := by
  unfold addr_Size_Valid.f vld
  by_cases h1 : R ≥ 1
  · rw [if_pos h1]
    by_cases h2 : R ≤ 43
    · rw [if_pos h2]
      by_cases h3 : C ≥ 1
      · rw [if_pos h3]
        by_cases h4 : C ≤ 132
        · have hm := mul_bound h1 h2 h3 h4
          rw [if_pos h4, wrap64_id (by omega) (by omega)]
          congr 1; rw [decide_eq_decide]; omega
        · rw [if_neg h4]; congr 1; symm; rw [decide_eq_false_iff_not]; omega
      · rw [if_neg h3]; congr 1; symm; rw [decide_eq_false_iff_not]; omega
    · rw [if_neg h2]; congr 1; symm; rw [decide_eq_false_iff_not]; omega
  · rw [if_neg h1]; congr 1; symm; rw [decide_eq_false_iff_not]; omega

theorem rvalid_f (R C : Int) : vitrineref04_Valid.f R C = some (vld R C) := by
  rw [← valid_f]; rfl

theorem cells_f (R C : Int) : addr_Size_Cells.f R C = some (cel R C) := by
  unfold addr_Size_Cells.f cel
  rw [valid_f]; simp only [Option.bind_some]
  by_cases h : vld R C = true
  · have := vld_pos h
    rw [if_pos h, if_pos h, wrap64_id (by omega) (by omega)]
  · rw [if_neg h, if_neg h]

theorem rcells_f (R C : Int) : vitrineref04_Cells.f R C = some (cel R C) := by
  unfold vitrineref04_Cells.f cel
  rw [rvalid_f]; simp only [Option.bind_some]
  by_cases h : vld R C = true
  · have := vld_pos h
    rw [h]; simp only [Bool.not_true, Bool.false_eq_true, if_false, if_true]
    rw [wrap64_id (by omega) (by omega)]
  · have h' : vld R C = false := by simpa using h
    rw [h']; simp

theorem wrap_f (R C n : Int) : addr_Size_Wrap.f R C n = some (wrp R C n) := by
  unfold addr_Size_Wrap.f wrp
  rw [valid_f]; simp only [Option.bind_some]
  by_cases h : vld R C = true
  · have hp := vld_pos h
    rw [if_pos h, if_pos h, cells_f]; simp only [Option.bind_some, cel]
    rw [if_pos h, rest_f _ _ (by omega) (by omega)]; rfl
  · rw [if_neg h, if_neg h]

theorem rwrap_f (R C n : Int) : vitrineref04_Wrap.f R C n = some (wrp R C n) := by
  unfold vitrineref04_Wrap.f wrp
  rw [rcells_f]; simp only [Option.bind_some, cel]
  by_cases h : vld R C = true
  · have hp := vld_pos h
    rw [if_pos h, if_pos h, mod_f _ _ (by omega) (by omega)]; rfl
  · rw [if_neg h, if_neg h]
    unfold vitrineref04_Mod.f; rw [if_pos (by decide)]; rfl

theorem at_f (R C r c : Int) : addr_Size_At.f R C r c = some (att R C r c) := by
  unfold addr_Size_At.f att
  rw [valid_f]; simp only [Option.bind_some]
  by_cases h : vld R C = true
  · have hp := vld_pos h
    have r0 := Int.emod_nonneg r (by omega : R ≠ 0)
    have r1 := Int.emod_lt_of_pos r (by omega : 0 < R)
    have c0 := Int.emod_nonneg c (by omega : C ≠ 0)
    have c1 := Int.emod_lt_of_pos c (by omega : 0 < C)
    have hm : 0 ≤ r % R * C ∧ r % R * C ≤ 43 * 132 := by
      refine ⟨Int.mul_nonneg r0 (by omega), ?_⟩
      exact Int.le_trans (Int.mul_le_mul_of_nonneg_right (by omega : r % R ≤ 43) (by omega)) (by omega)
    rw [if_pos h, if_pos h, rest_f _ _ (by omega) (by omega), rest_f _ _ (by omega) (by omega)]
    simp only [Option.bind_some]
    rw [wrap64_id (n := r % R * C) (by omega) (by omega), wrap64_id (by omega) (by omega)]
  · rw [if_neg h, if_neg h]

theorem rat_f (R C r c : Int) : vitrineref04_At.f R C r c = some (att R C r c) := by
  unfold vitrineref04_At.f att
  rw [rvalid_f]; simp only [Option.bind_some]
  by_cases h : vld R C = true
  · have hp := vld_pos h
    have r0 := Int.emod_nonneg r (by omega : R ≠ 0)
    have r1 := Int.emod_lt_of_pos r (by omega : 0 < R)
    have c0 := Int.emod_nonneg c (by omega : C ≠ 0)
    have c1 := Int.emod_lt_of_pos c (by omega : 0 < C)
    have hm : 0 ≤ r % R * C ∧ r % R * C ≤ 43 * 132 := by
      refine ⟨Int.mul_nonneg r0 (by omega), ?_⟩
      exact Int.le_trans (Int.mul_le_mul_of_nonneg_right (by omega : r % R ≤ 43) (by omega)) (by omega)
    rw [h]; simp only [Bool.not_true, Bool.false_eq_true, if_false, if_true]
    rw [mod_f _ _ (by omega) (by omega), mod_f _ _ (by omega) (by omega)]
    simp only [Option.bind_some]
    rw [Int.mul_comm C, wrap64_id (n := r % R * C) (by omega) (by omega), wrap64_id (by omega) (by omega)]
  · have h' : vld R C = false := by simpa using h
    rw [h']; simp

theorem in_place (R C n : Int) (h : vld R C = true) : 0 ≤ n % (R * C) ∧ n % (R * C) < R * C ∧ 0 ≤ n % (R * C) / C ∧ n % (R * C) / C < R ∧ 0 ≤ n % (R * C) % C ∧ n % (R * C) % C < C := by
  have hp := vld_pos h
  have n0 := Int.emod_nonneg n (by omega : R * C ≠ 0)
  have n1 := Int.emod_lt_of_pos n (by omega : 0 < R * C)
  exact ⟨n0, n1, Int.ediv_nonneg n0 (by omega), Int.ediv_lt_of_lt_mul (by omega) n1, Int.emod_nonneg _ (by omega), Int.emod_lt_of_pos _ (by omega)⟩

theorem row_f (R C n : Int) : addr_Size_Row.f R C n = some (row R C n) := by
  unfold addr_Size_Row.f row
  rw [valid_f]; simp only [Option.bind_some]
  by_cases h : vld R C = true
  · have hp := vld_pos h
    have hi := in_place R C n h
    rw [if_pos h, if_pos h, wrap_f]; simp only [Option.bind_some, wrp]
    rw [if_pos h, if_neg (by omega), Int.tdiv_eq_ediv_of_nonneg hi.1, wrap64_id (by omega) (by omega)]
  · rw [if_neg h, if_neg h]

theorem col_f (R C n : Int) : addr_Size_Col.f R C n = some (col R C n) := by
  unfold addr_Size_Col.f col
  rw [valid_f]; simp only [Option.bind_some]
  by_cases h : vld R C = true
  · have hp := vld_pos h
    have hi := in_place R C n h
    rw [if_pos h, if_pos h, wrap_f]; simp only [Option.bind_some, wrp]
    rw [if_pos h, if_neg (by omega), Int.tmod_eq_emod_of_nonneg hi.1]
  · rw [if_neg h, if_neg h]

theorem move_f (R C n a b : Int) : addr_Size_Move.f R C n a b = some (mov R C n a b) := by
  unfold addr_Size_Move.f mov
  rw [valid_f]; simp only [Option.bind_some]
  by_cases h : vld R C = true
  · have hp := vld_pos h
    have hn := in_place R C n h
    have hb := in_place R C b h
    have hm := in_place R C (n + b) h
    have a0 := Int.emod_nonneg a (by omega : R ≠ 0)
    have a1 := Int.emod_lt_of_pos a (by omega : 0 < R)
    have e : (n % (R * C) + b % (R * C)) % (R * C) = (n + b) % (R * C) := by rw [← Int.add_emod]
    rw [if_pos h, if_pos h, wrap_f, wrap_f]; simp only [Option.bind_some, wrp]
    simp only [h, if_true]
    rw [wrap64_id (n := n % (R * C) + b % (R * C)) (by omega) (by omega), wrap_f]
    simp only [Option.bind_some, wrp, h, if_true]
    rw [e, row_f, rest_f _ _ (by omega) (by omega), col_f]
    simp only [Option.bind_some, row, col, h, if_true]
    rw [Int.emod_emod, wrap64_id (n := (n + b) % (R * C) / C + a % R) (by omega) (by omega), at_f]
    simp only [Option.bind_some, att, h, if_true]
    rw [Int.emod_emod]
  · rw [if_neg h, if_neg h]

theorem rmove_f (R C n a b : Int) : vitrineref04_Move.f R C n a b = some (mov R C n a b) := by
  unfold vitrineref04_Move.f mov
  rw [rvalid_f]; simp only [Option.bind_some]
  by_cases h : vld R C = true
  · have hp := vld_pos h
    have hn := in_place R C n h
    have hb := in_place R C b h
    have hm := in_place R C (n + b) h
    have a0 := Int.emod_nonneg a (by omega : R ≠ 0)
    have a1 := Int.emod_lt_of_pos a (by omega : 0 < R)
    have e : (n % (R * C) + b % (R * C)) % (R * C) = (n + b) % (R * C) := by rw [← Int.add_emod]
    rw [h]; simp only [Bool.not_true, Bool.false_eq_true, if_false, if_true]
    rw [rwrap_f, rwrap_f, rcells_f]; simp only [Option.bind_some, wrp, cel, h, if_true]
    rw [wrap64_id (n := n % (R * C) + b % (R * C)) (by omega) (by omega), mod_f _ _ (by omega) (by omega), e]
    simp only [Option.bind_some]
    rw [if_neg (by omega)]
    rw [mod_f _ _ (by omega) (by omega)]
    simp only [Option.bind_some]
    rw [Int.tdiv_eq_ediv_of_nonneg hm.1, Int.tmod_eq_emod_of_nonneg hm.1, wrap64_id (n := (n + b) % (R * C) / C) (by omega) (by omega), wrap64_id (by omega) (by omega), rat_f]
    simp only [Option.bind_some, att, h, if_true]
    first
      | rw [if_neg (by omega), Int.emod_emod]
      | rw [Int.emod_emod]
  · have h' : vld R C = false := by simpa using h
    rw [h']; simp

theorem line_f (R C n : Int) : addr_Size_Line.f R C n = some (lin R C n) := by
  unfold addr_Size_Line.f lin
  rw [row_f]; simp only [Option.bind_some, row]
  by_cases h : vld R C = true
  · have hp := vld_pos h
    have hn := in_place R C n h
    rw [if_pos h, if_pos h, wrap64_id (by omega) (by omega), at_f]
    simp [att, h]
  · rw [if_neg h, if_neg h, at_f]; simp [att, h]

theorem length_f (R C a b : Int) : addr_Size_Length.f R C a b = some (len R C a b) := by
  unfold addr_Size_Length.f len
  rw [wrap_f, wrap_f]; simp only [Option.bind_some, wrp]
  by_cases h : vld R C = true
  · have hp := vld_pos h
    have ha := in_place R C a h
    have hb := in_place R C b h
    have hm := in_place R C (b - a) h
    have e : (b % (R * C) - a % (R * C)) % (R * C) = (b - a) % (R * C) := by rw [← Int.sub_emod]
    simp only [h, if_true]
    rw [wrap64_id (n := b % (R * C) - a % (R * C)) (by omega) (by omega), wrap_f]
    simp only [Option.bind_some, wrp, h, if_true]
    rw [e, cells_f]
    by_cases hz : (b - a) % (R * C) = 0
    · rw [if_pos hz, if_neg (by omega)]; simp [cel, h]
    · rw [if_neg hz, if_pos (by omega)]
  · have h' : vld R C = false := by simpa using h
    simp only [h', Bool.false_eq_true, if_false]
    rw [wrap_f, cells_f]
    simp [wrp, cel, h']

end Go.Proofs.Ytangandfgbnomaa.V
