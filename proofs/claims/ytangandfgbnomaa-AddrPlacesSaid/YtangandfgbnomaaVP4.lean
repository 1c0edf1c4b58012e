/- The law AddrMoves: there and back is nothing, a row's places are gone round, down is as many columns as a row has. -/
import Derived.Test.YtangandfgbnomaaVM4
namespace Go.Proofs.Ytangandfgbnomaa.V
open Go.RowKit Go.Proofs.YtangandfgbnomaaW.PrintWords Go.Proofs.YtangandfgbnomaaW.PrintLast Go.Proofs.YtangandfgbnomaaW.PrintMore

/-! ### the plain law -/
theorem wrp_mov (R C n a b : Int) (h : vld R C = true) : 0 ≤ mov R C n a b ∧ mov R C n a b < R * C ∧ mov R C n a b % (R * C) = mov R C n a b ∧ mov R C n a b / C = ((n + b) % (R * C) / C + a % R) % R ∧ mov R C n a b % C = (n + b) % (R * C) % C := by
  have hp := vld_pos h
  have hm := in_place R C (n + b) h
  have r0 := Int.emod_nonneg ((n + b) % (R * C) / C + a % R) (by omega : R ≠ 0)
  have r1 := Int.emod_lt_of_pos ((n + b) % (R * C) / C + a % R) (by omega : 0 < R)
  have e : mov R C n a b = ((n + b) % (R * C) / C + a % R) % R * C + (n + b) % (R * C) % C := by unfold mov; rw [if_pos h]
  generalize (n + b) % (R * C) % C = x at *
  generalize ((n + b) % (R * C) / C + a % R) % R = y at *
  have hy : y * C ≤ (R - 1) * C := Int.mul_le_mul_of_nonneg_right (by omega) (by omega)
  have hy0 : 0 ≤ y * C := Int.mul_nonneg r0 (by omega)
  rw [Int.sub_mul, Int.one_mul] at hy
  have hlt : mov R C n a b < R * C := by omega
  have hge : 0 ≤ mov R C n a b := by omega
  refine ⟨hge, hlt, Int.emod_eq_of_lt hge hlt, ?_, ?_⟩
  · rw [e, Int.add_comm, Int.add_mul_ediv_right _ _ (by omega), Int.ediv_eq_zero_of_lt (by omega) (by omega), Int.zero_add]
  · rw [e, Int.add_comm, Int.add_mul_emod_self_right, Int.emod_eq_of_lt (by omega) (by omega)]

theorem mov_eq (R C n a b : Int) (h : vld R C = true) : mov R C n a b = ((n + b) % (R * C) / C + a % R) % R * C + (n + b) % (R * C) % C := by unfold mov; rw [if_pos h]

theorem small_wrap (a : Int) : IntKind.i64.wrap (-a.tmod 10000) = -(a.tmod 10000) := by
  have := tmod_range a 10000 (by decide)
  rw [IntKind.wrap_i64]; omega

theorem place_split (R C n : Int) (h : vld R C = true) : n % (R * C) / C * C + n % (R * C) % C = n % (R * C) := by
  rw [Int.mul_comm]; exact Int.mul_ediv_add_emod _ _

theorem mov_rows (R C n a : Int) (h : vld R C = true) : mov R C (mov R C n a 0) (-a) 0 = wrp R C n := by
  have hp := vld_pos h
  have hn := in_place R C n h
  obtain ⟨_, _, e1, e2, e3⟩ := wrp_mov R C n a 0 h
  rw [mov_eq R C (mov R C n a 0) (-a) 0 h, Int.add_zero, e1, e2, e3, Int.add_zero]
  unfold wrp; rw [if_pos h]
  have hr : ((n % (R * C) / C + a % R) % R + -a % R) % R = n % (R * C) / C := by
    rw [← Int.add_emod, Int.add_assoc, Int.add_emod (n % (R * C) / C), Int.add_emod (a % R), Int.emod_emod, ← Int.add_emod a, Int.add_right_neg, Int.zero_emod, Int.add_zero, Int.emod_emod, Int.emod_eq_of_lt (by omega) (by omega)]
  rw [hr]; exact place_split R C n h

theorem mov_cols (R C n b : Int) (h : vld R C = true) : mov R C (mov R C n 0 b) 0 (-b) = wrp R C n := by
  have hp := vld_pos h
  have hn := in_place R C n h
  have key : ∀ m c, mov R C m 0 c = (m + c) % (R * C) := fun m c => by
    have hm := in_place R C (m + c) h
    unfold mov
    rw [if_pos h, Int.zero_emod, Int.add_zero, Int.emod_eq_of_lt (b := R) (by omega) (by omega)]
    exact place_split R C (m + c) h
  rw [key, key]
  unfold wrp; rw [if_pos h, Int.add_emod, Int.emod_emod, ← Int.add_emod, Int.add_assoc, Int.add_right_neg, Int.add_zero]

theorem mov_all (R C n : Int) (h : vld R C = true) : mov R C n R 0 = wrp R C n := by
  have hn := in_place R C n h
  unfold mov wrp
  rw [if_pos h, if_pos h, Int.emod_self, Int.add_zero, Int.add_zero, Int.emod_eq_of_lt (b := R) (by omega) (by omega)]
  exact place_split R C n h

theorem mov_round (R C n : Int) (h : vld R C = true) : mov R C n 0 (cel R C) = wrp R C n := by
  have hn := in_place R C n h
  unfold mov wrp cel
  rw [if_pos h, if_pos h, if_pos h, Int.add_emod_right, Int.zero_emod, Int.add_zero, Int.emod_eq_of_lt (b := R) (by omega) (by omega)]
  exact place_split R C n h

theorem moves_calls (R C n a b : Int) (w : World) : Calls Try.prog 4 #[sz R C, .int .i64 n, .int .i64 a, .int .i64 b] w fun e w' => e = .returned (.bool true) ∧ Below w.heap.size w w' := by
  cases h : vld R C with
  | false => exact moves_bad R C n a b h w
  | true =>
    have hp := vld_pos h
    have hn := in_place R C n h
    obtain ⟨_, _, e1, e2, e3⟩ := wrp_mov R C n 1 0 h
    have hw : wrp R C n = n % (R * C) := by unfold wrp; rw [if_pos h]
    have hrow : row R C n = n % (R * C) / C := by unfold row; rw [if_pos h]
    have hcol : col R C n = n % (R * C) % C := by unfold col; rw [if_pos h]
    have hrd : row R C (mov R C n 1 0) = (n % (R * C) / C + 1 % R) % R := by unfold row; rw [if_pos h, e1, e2, Int.add_zero]
    have hcd : col R C (mov R C n 1 0) = col R C n := by rw [hcol]; unfold col; rw [if_pos h, e1, e3, Int.add_zero]
    refine moves_good R C n a b h w (by rw [small_wrap]; exact mov_rows R C n _ h) (by rw [small_wrap]; exact mov_cols R C n _ h) (mov_all R C n h) (mov_round R C n h)
      (by rw [IntKind.wrap_i64]; omega) (by rw [hw, IntKind.wrap_i64]; omega) ?_
    by_cases hl : n % (R * C) / C = R - 1
    · refine .inl ⟨by rw [hrow, hl], ?_, hcd⟩
      rw [hrd, hl]
      by_cases h1 : R = 1
      · subst h1; rfl
      · rw [Int.emod_eq_of_lt (a := 1) (by omega) (by omega), Int.sub_add_cancel, Int.emod_self]
    · have hmv : mov R C n 1 0 = wrp R C n + C := by
        have h1 : R ≠ 1 := by
          intro e; subst e
          have : n % (1 * C) / C = 0 := Int.ediv_eq_zero_of_lt hn.1 (by rw [Int.one_mul] at hn ⊢; exact hn.2.1)
          omega
        have e : mov R C n 1 0 = (n % (R * C) / C + 1 % R) % R * C + n % (R * C) % C := by unfold mov; rw [if_pos h, Int.add_zero]
        rw [e, hw, Int.emod_eq_of_lt (a := 1) (by omega) (by omega), Int.emod_eq_of_lt (b := R) (by omega) (by omega), Int.add_mul, Int.one_mul]
        have := place_split R C n h
        omega
      refine .inr ⟨by rw [hrow]; exact beq_eq_false_iff_ne.2 hl, hmv, ?_⟩
      rw [← hmv]; exact hcd

end Go.Proofs.Ytangandfgbnomaa.V
