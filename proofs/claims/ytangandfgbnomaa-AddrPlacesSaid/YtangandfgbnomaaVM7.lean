/- The walk of the law AddrPlaces. -/
import Derived.Test.YtangandfgbnomaaVP4
namespace Go.Proofs.Ytangandfgbnomaa.V
open Go.RowKit Go.Proofs.YtangandfgbnomaaW.PrintWords Go.Proofs.YtangandfgbnomaaW.PrintLast Go.Proofs.YtangandfgbnomaaW.PrintMore
set_option linter.unusedVariables false
set_option linter.unusedSimpArgs false

set_option maxHeartbeats 4000000 in
theorem places_walk (R C n a b rw cl ln : Int) (v : Bool) (hv : vld R C = v) (w : World)
    (hg : v = true → 1 ≤ C ∧ 0 ≤ wrp R C n ∧ wrp R C n ≤ 3564 ∧ rw = wrp R C n / C ∧ cl = wrp R C n % C ∧ ln = att R C (rw + 1) 0 ∧ 0 ≤ rw ∧ rw ≤ 43) (hb : v = false → rw = 0 ∧ cl = 0 ∧ ln = 0)
    (e1 : row R C n = rw) (e2 : col R C n = cl) (e3 : lin R C n = ln) (e4 : att R C rw cl = wrp R C n) :
    Calls Try.prog 7 #[sz R C, .int .i64 n, .int .i64 a, .int .i64 b] w fun e w' => e = .returned (.bool true) ∧ Below w.heap.size w w' := by
  have E3 := Aside0.mk e3
  have E4 := Aside0.mk e4
  clear e3 e4
  go_enter Try.func7, Try.ntmps7
  go_wp2_with (go_at_call 27; (with_reducible refine (awake04 _).mono ?_); rintro e w1 ⟨rfl, hb1⟩; obtain ⟨hc1, hf1, hz1⟩ := after hb1; simp only [World.size_alloc, Nat.add_one_le_iff] at hc1 hf1 hz1; have hy1 := Nat.le_of_lt hz1)
  have B1 := ((Below.refl _ w).alloc (Nat.le_refl _) (.cells #[.int .i64 R, .int .i64 C] 28)).trans (hb1.mono (by simp))
  have S3 : Two w w.heap.size w1.heap.size R C (w1.alloc (.cells #[.int .i64 R, .int .i64 C] 24)) := ⟨two_alloc (.cells #[.int .i64 R, .int .i64 C] 24) (two_call hb1 (two_new w 28 R C)), two_new w1 24 R C, B1.alloc B1.size _⟩
  clear hc1 hf1
  refine wp_region_quiet (C := Two w w.heap.size w1.heap.size R C) (by kernel_rfl) (by kernel_rfl) ⟨S3.1, S3.2.1, S3.2.2.drew⟩ ?_
  simp only []
  repeat (first
    | go_big_quiet_skip
    | (go_big_quiet_want; first
        | (go_big_quiet_op; first
            | go_big_quiet_on
            | (go_big_quiet_call ((intro hW; first
                | exact (c_valid _ _ _).mono (fun e W' h => ⟨h.1, hW.call h.2⟩)
                | exact (r_valid _ _ _).mono (fun e W' h => ⟨h.1, hW.call h.2⟩)
                | exact (c_cells _ _ _).mono (fun e W' h => ⟨h.1, hW.call h.2⟩)
                | exact (r_cells _ _ _).mono (fun e W' h => ⟨h.1, hW.call h.2⟩)
                | exact (c_wrap _ _ _ _).mono (fun e W' h => ⟨h.1, hW.call h.2⟩)
                | exact (r_wrap _ _ _ _).mono (fun e W' h => ⟨h.1, hW.call h.2⟩)
                | exact (c_at _ _ _ _ _).mono (fun e W' h => ⟨h.1, hW.call h.2⟩)
                | exact (r_at _ _ _ _ _).mono (fun e W' h => ⟨h.1, hW.call h.2⟩)
                | exact (c_move _ _ _ _ _ _).mono (fun e W' h => ⟨h.1, hW.call h.2⟩)
                | exact (r_move _ _ _ _ _ _).mono (fun e W' h => ⟨h.1, hW.call h.2⟩)
                | exact (c_line _ _ _ _).mono (fun e W' h => ⟨h.1, hW.call h.2⟩)
                | exact (c_col _ _ _ _).mono (fun e W' h => ⟨h.1, hW.call h.2⟩)
                | exact (c_row _ _ _ _).mono (fun e W' h => ⟨h.1, hW.call h.2⟩)))))
        | (apply quiet_of
           · (intro W hW
              obtain ⟨⟨g1, g2, g3⟩, ⟨g4, g5, g6⟩, g7⟩ := hW
              go_simp
              with_reducible rfl)
           simp only [Act.put, List.setIfInBounds_toArray, List.set_cons_zero, List.set_cons_succ]
           go_big_quiet_on)))
  refine wpQuiet_nil ?_
  intro W4 S4
  clear S3
  obtain ⟨s1, s2, B4⟩ := S4
  have S4 : Two w w.heap.size w1.heap.size R C W4 := ⟨s1, s2, B4⟩
  cases v with
  | false =>
    obtain ⟨rfl, rfl, rfl⟩ := hb rfl
    clear hg hb
    go_wp2_with (go_at_call 46; (with_reducible refine (r_valid _ _ _).mono ?_); rintro e w5 ⟨rfl, hb5⟩)
    have S5 := S4.call hb5
    clear S4 s1 s2 B4 hb5
    have g3 := E3.out
    have g4 := E4.out
    clear E3 E4
    refine wp_region_quiet (C := Two w w.heap.size w1.heap.size R C) (by kernel_rfl) (by kernel_rfl) ⟨S5.1, S5.2.1, S5.2.2.drew⟩ ?_
    simp only []
    repeat (first
      | go_big_quiet_skip
      | (go_big_quiet_want; first
          | (go_big_quiet_op; first
              | go_big_quiet_on
              | (go_big_quiet_call ((intro hW; first
                  | exact (c_valid _ _ _).mono (fun e W' h => ⟨h.1, hW.call h.2⟩)
                  | exact (r_valid _ _ _).mono (fun e W' h => ⟨h.1, hW.call h.2⟩)
                  | exact (c_cells _ _ _).mono (fun e W' h => ⟨h.1, hW.call h.2⟩)
                  | exact (r_cells _ _ _).mono (fun e W' h => ⟨h.1, hW.call h.2⟩)
                  | exact (c_wrap _ _ _ _).mono (fun e W' h => ⟨h.1, hW.call h.2⟩)
                  | exact (r_wrap _ _ _ _).mono (fun e W' h => ⟨h.1, hW.call h.2⟩)
                  | exact (c_at _ _ _ _ _).mono (fun e W' h => ⟨h.1, hW.call h.2⟩)
                  | exact (r_at _ _ _ _ _).mono (fun e W' h => ⟨h.1, hW.call h.2⟩)
                  | exact (c_move _ _ _ _ _ _).mono (fun e W' h => ⟨h.1, hW.call h.2⟩)
                  | exact (r_move _ _ _ _ _ _).mono (fun e W' h => ⟨h.1, hW.call h.2⟩)
                  | exact (c_line _ _ _ _).mono (fun e W' h => ⟨h.1, hW.call h.2⟩)
                  | exact (c_col _ _ _ _).mono (fun e W' h => ⟨h.1, hW.call h.2⟩)
                  | exact (c_row _ _ _ _).mono (fun e W' h => ⟨h.1, hW.call h.2⟩)))))
          | (apply quiet_of
             · (intro W hW
                obtain ⟨⟨g1, g2, g3⟩, ⟨g4, g5, g6⟩, g7⟩ := hW
                go_simp
                with_reducible rfl)
             simp only [Act.put, List.setIfInBounds_toArray, List.set_cons_zero, List.set_cons_succ]
             go_big_quiet_on)))
    refine wpQuiet_nil ?_
    intro W6 S6
    go_wp2
    go_ret
    exact ⟨rfl, S6.2.2⟩
  | true =>
    obtain ⟨p1, p2, p3, q1, q2, q3, p4, p5⟩ := hg rfl
    clear hg hb
    have Q1 := Aside0.mk q1
    have Q2 := Aside0.mk q2
    have Q3 := Aside0.mk q3
    clear q1 q2 q3
    go_wp2_with (go_at_call 46; (with_reducible refine (r_valid _ _ _).mono ?_); rintro e w5 ⟨rfl, hb5⟩)
    have S5 := S4.call hb5
    clear S4 s1 s2 B4 hb5
    have q1 := Q1.out.symm
    have q2 := Q2.out.symm
    have z1 : (C == 0) = false := beq_eq_false_iff_ne.2 (by omega)
    have z2 : ¬ C = 0 := by omega
    have z3 : (wrp R C n).tdiv C = rw := by rw [Int.tdiv_eq_ediv_of_nonneg p2]; exact q1
    have z4 : (wrp R C n).tmod C = cl := by rw [Int.tmod_eq_emod_of_nonneg p2]; exact q2
    have z5 : IntKind.i64.wrap rw = rw := by rw [IntKind.wrap_i64]; omega
    have z6 : wrap64 rw = rw := wrap64_id (by omega) (by omega)
    clear Q1 Q2
    refine wp_region_quiet (C := Two w w.heap.size w1.heap.size R C) (by kernel_rfl) (by kernel_rfl) ⟨S5.1, S5.2.1, S5.2.2.drew⟩ ?_
    simp only []
    repeat (first
      | go_big_quiet_skip
      | (go_big_quiet_want; first
          | (go_big_quiet_op; first
              | go_big_quiet_on
              | (go_big_quiet_call ((intro hW; first
                  | exact (c_valid _ _ _).mono (fun e W' h => ⟨h.1, hW.call h.2⟩)
                  | exact (r_valid _ _ _).mono (fun e W' h => ⟨h.1, hW.call h.2⟩)
                  | exact (c_cells _ _ _).mono (fun e W' h => ⟨h.1, hW.call h.2⟩)
                  | exact (r_cells _ _ _).mono (fun e W' h => ⟨h.1, hW.call h.2⟩)
                  | exact (c_wrap _ _ _ _).mono (fun e W' h => ⟨h.1, hW.call h.2⟩)
                  | exact (r_wrap _ _ _ _).mono (fun e W' h => ⟨h.1, hW.call h.2⟩)
                  | exact (c_at _ _ _ _ _).mono (fun e W' h => ⟨h.1, hW.call h.2⟩)
                  | exact (r_at _ _ _ _ _).mono (fun e W' h => ⟨h.1, hW.call h.2⟩)
                  | exact (c_move _ _ _ _ _ _).mono (fun e W' h => ⟨h.1, hW.call h.2⟩)
                  | exact (r_move _ _ _ _ _ _).mono (fun e W' h => ⟨h.1, hW.call h.2⟩)
                  | exact (c_line _ _ _ _).mono (fun e W' h => ⟨h.1, hW.call h.2⟩)
                  | exact (c_col _ _ _ _).mono (fun e W' h => ⟨h.1, hW.call h.2⟩)
                  | exact (c_row _ _ _ _).mono (fun e W' h => ⟨h.1, hW.call h.2⟩)))))
          | (apply quiet_of
             · (intro W hW
                obtain ⟨⟨g1, g2, g3⟩, ⟨g4, g5, g6⟩, g7⟩ := hW
                go_simp
                with_reducible rfl)
             simp only [Act.put, List.setIfInBounds_toArray, List.set_cons_zero, List.set_cons_succ]
             go_big_quiet_on)))
    refine wpQuiet_nil ?_
    intro W6 S6
    obtain ⟨s1, s2, B6⟩ := S6
    have S6 : Two w w.heap.size w1.heap.size R C W6 := ⟨s1, s2, B6⟩
    have q3 := Q3.out.symm
    go_wp2_with (go_at_call 50; (with_reducible refine (r_at _ _ _ _ _).mono ?_); rintro e w7 ⟨rfl, hb7⟩)
    have S7 := S6.call hb7
    clear S6 s1 s2 B6 hb7 hb1 hz1 hy1 B1 z1 z2 z3 z4 z5 z6 q1 q2 q3
    have g3 := E3.out
    have g4 := E4.out
    clear E3 E4
    refine wp_region_quiet (C := Two w w.heap.size w1.heap.size R C) (by kernel_rfl) (by kernel_rfl) ⟨S7.1, S7.2.1, S7.2.2.drew⟩ ?_
    simp only []
    repeat (first
      | go_big_quiet_skip
      | (go_big_quiet_want; first
          | (go_big_quiet_op; first
              | go_big_quiet_on
              | (go_big_quiet_call ((intro hW; first
                  | exact (c_valid _ _ _).mono (fun e W' h => ⟨h.1, hW.call h.2⟩)
                  | exact (r_valid _ _ _).mono (fun e W' h => ⟨h.1, hW.call h.2⟩)
                  | exact (c_cells _ _ _).mono (fun e W' h => ⟨h.1, hW.call h.2⟩)
                  | exact (r_cells _ _ _).mono (fun e W' h => ⟨h.1, hW.call h.2⟩)
                  | exact (c_wrap _ _ _ _).mono (fun e W' h => ⟨h.1, hW.call h.2⟩)
                  | exact (r_wrap _ _ _ _).mono (fun e W' h => ⟨h.1, hW.call h.2⟩)
                  | exact (c_at _ _ _ _ _).mono (fun e W' h => ⟨h.1, hW.call h.2⟩)
                  | exact (r_at _ _ _ _ _).mono (fun e W' h => ⟨h.1, hW.call h.2⟩)
                  | exact (c_move _ _ _ _ _ _).mono (fun e W' h => ⟨h.1, hW.call h.2⟩)
                  | exact (r_move _ _ _ _ _ _).mono (fun e W' h => ⟨h.1, hW.call h.2⟩)
                  | exact (c_line _ _ _ _).mono (fun e W' h => ⟨h.1, hW.call h.2⟩)
                  | exact (c_col _ _ _ _).mono (fun e W' h => ⟨h.1, hW.call h.2⟩)
                  | exact (c_row _ _ _ _).mono (fun e W' h => ⟨h.1, hW.call h.2⟩)))))
          | (apply quiet_of
             · (intro W hW
                obtain ⟨⟨g1, g2, g3⟩, ⟨g4, g5, g6⟩, g7⟩ := hW
                go_simp
                with_reducible rfl)
             simp only [Act.put, List.setIfInBounds_toArray, List.set_cons_zero, List.set_cons_succ]
             go_big_quiet_on)))
    refine wpQuiet_nil ?_
    intro W8 S8
    go_wp2
    go_ret
    exact ⟨rfl, S8.2.2⟩

theorem places_calls (R C n a b : Int) (w : World) : Calls Try.prog 7 #[sz R C, .int .i64 n, .int .i64 a, .int .i64 b] w fun e w' => e = .returned (.bool true) ∧ Below w.heap.size w w' := by
  cases h : vld R C with
  | false =>
    refine places_walk R C n a b 0 0 0 false h w (fun e => by cases e) (fun _ => ⟨rfl, rfl, rfl⟩) ?_ ?_ ?_ ?_ <;> simp [row, col, lin, att, wrp, h]
  | true =>
    have hp := vld_pos h
    have hi := in_place R C n h
    have hw : wrp R C n = n % (R * C) := by unfold wrp; rw [if_pos h]
    have hs := place_split R C n h
    refine places_walk R C n a b (n % (R * C) / C) (n % (R * C) % C) (lin R C n) true h w (fun _ => ⟨by omega, by omega, by omega, by rw [hw], by rw [hw], ?_, by omega, by omega⟩) (fun e => by cases e) ?_ ?_ rfl ?_
    · unfold lin att; rw [if_pos h, if_pos h, Int.zero_emod, Int.add_zero]
    · unfold row; rw [if_pos h]
    · unfold col; rw [if_pos h]
    · rw [hw]; unfold att; rw [if_pos h, Int.emod_eq_of_lt (b := R) (by omega) (by omega), Int.emod_emod]; exact hs

end Go.Proofs.Ytangandfgbnomaa.V
