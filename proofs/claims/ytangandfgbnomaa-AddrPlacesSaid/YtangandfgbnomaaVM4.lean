/- The walk of the law AddrMoves. -/
import Derived.Test.YtangandfgbnomaaVA2
namespace Go.Proofs.Ytangandfgbnomaa.V
open Go.RowKit Go.Proofs.YtangandfgbnomaaW.PrintWords Go.Proofs.YtangandfgbnomaaW.PrintLast Go.Proofs.YtangandfgbnomaaW.PrintMore
set_option linter.unusedVariables false
set_option linter.unusedSimpArgs false

set_option maxHeartbeats 1000000 in
theorem moves_bad (R C n a b : Int) (hv : vld R C = false) (w : World) :
    Calls Try.prog 4 #[sz R C, .int .i64 n, .int .i64 a, .int .i64 b] w fun e w' => e = .returned (.bool true) ∧ Below w.heap.size w w' := by
  have hm : ∀ x y z, mov R C x y z = 0 := fun x y z => by unfold mov; rw [hv]; rfl
  go_enter Try.func4, Try.ntmps4
  go_wp2_with (first
      | (go_at_call 27; (with_reducible refine (awake04 _).mono ?_); rintro e w1 ⟨rfl, hb1⟩; obtain ⟨hc1, hf1, hz1⟩ := after hb1; simp only [World.size_alloc, Nat.add_one_le_iff] at hc1 hf1 hz1; have hy1 := Nat.le_of_lt hz1)
      | (go_at_call 30; (with_reducible refine (c_valid _ _ _).mono ?_); rintro e w2 ⟨rfl, hb2⟩; obtain ⟨hc2, hf2, hz2⟩ := after hb2; simp only [World.size_alloc, Nat.add_one_le_iff] at hc2 hf2 hz2; have hy2 := Nat.le_of_lt hz2)
      | (go_at_call 31; (with_reducible refine (c_move _ _ _ _ _ _).mono ?_); rintro e w3 ⟨rfl, hb3⟩))
  go_ret
  refine ⟨rfl, ?_⟩
  have B1 := ((Below.refl _ w).alloc (Nat.le_refl _) _).trans (hb1.mono (by simp))
  have B2 := (B1.alloc B1.size _).trans (hb2.mono (by have := B1.size; simp; omega))
  exact B2.trans (hb3.mono B2.size)


/-- A size lies in block p. -/
theorem two_new (W : World) (t : TypeId) (R C : Int) : (W.alloc (.cells #[.int .i64 R, .int .i64 C] t)).cell? ⟨W.heap.size, 0, none⟩ = some (.int .i64 R) ∧ (W.alloc (.cells #[.int .i64 R, .int .i64 C] t)).cell? ⟨W.heap.size, 1, none⟩ = some (.int .i64 C) ∧ W.heap.size < (W.alloc (.cells #[.int .i64 R, .int .i64 C] t)).heap.size := by simp
theorem two_alloc {W : World} {p : Nat} {R C : Int} (o : Obj) (h : W.cell? ⟨p, 0, none⟩ = some (.int .i64 R) ∧ W.cell? ⟨p, 1, none⟩ = some (.int .i64 C) ∧ p < W.heap.size) :
    (W.alloc o).cell? ⟨p, 0, none⟩ = some (.int .i64 R) ∧ (W.alloc o).cell? ⟨p, 1, none⟩ = some (.int .i64 C) ∧ p < (W.alloc o).heap.size :=
  ⟨(World.cell?_alloc_lt W o (a := ⟨p, 0, none⟩) h.2.2).trans h.1, (World.cell?_alloc_lt W o (a := ⟨p, 1, none⟩) h.2.2).trans h.2.1, by simp; omega⟩
theorem two_call {W W' : World} {p : Nat} {R C : Int} (hb : Below W.heap.size W W') (h : W.cell? ⟨p, 0, none⟩ = some (.int .i64 R) ∧ W.cell? ⟨p, 1, none⟩ = some (.int .i64 C) ∧ p < W.heap.size) :
    W'.cell? ⟨p, 0, none⟩ = some (.int .i64 R) ∧ W'.cell? ⟨p, 1, none⟩ = some (.int .i64 C) ∧ p < W'.heap.size :=
  ⟨(hb.cell (p := ⟨p, 0, none⟩) h.2.2).trans h.1, (hb.cell (p := ⟨p, 1, none⟩) h.2.2).trans h.2.1, Nat.lt_of_lt_of_le h.2.2 hb.size⟩
theorem keep2 {w W W' : World} {p q : Nat} {R C : Int} 
    (h : (W.cell? ⟨p, 0, none⟩ = some (.int .i64 R) ∧ W.cell? ⟨p, 1, none⟩ = some (.int .i64 C) ∧ p < W.heap.size) ∧ (W.cell? ⟨q, 0, none⟩ = some (.int .i64 R) ∧ W.cell? ⟨q, 1, none⟩ = some (.int .i64 C) ∧ q < W.heap.size) ∧ Below w.heap.size w W)
    (hb : Below W.heap.size W W') :
    (W'.cell? ⟨p, 0, none⟩ = some (.int .i64 R) ∧ W'.cell? ⟨p, 1, none⟩ = some (.int .i64 C) ∧ p < W'.heap.size) ∧ (W'.cell? ⟨q, 0, none⟩ = some (.int .i64 R) ∧ W'.cell? ⟨q, 1, none⟩ = some (.int .i64 C) ∧ q < W'.heap.size) ∧ Below w.heap.size w W' :=
  ⟨two_call hb h.1, two_call hb h.2.1, h.2.2.trans (hb.mono h.2.2.size)⟩

/-- The class of worlds in which a region that only reads two sizes is walked. -/
def Two (w : World) (p q : Nat) (R C : Int) (W : World) : Prop :=
  (W.cell? ⟨p, 0, none⟩ = some (.int .i64 R) ∧ W.cell? ⟨p, 1, none⟩ = some (.int .i64 C) ∧ p < W.heap.size) ∧ (W.cell? ⟨q, 0, none⟩ = some (.int .i64 R) ∧ W.cell? ⟨q, 1, none⟩ = some (.int .i64 C) ∧ q < W.heap.size) ∧ Below w.heap.size w W
theorem Two.call {w W W' : World} {p q : Nat} {R C : Int} (h : Two w p q R C W) (hb : Below W.heap.size W W') : Two w p q R C W' := keep2 h hb

set_option maxHeartbeats 4000000 in
theorem moves_good (R C n a b : Int) (hv : vld R C = true) (w : World)
    (e1 : mov R C (mov R C n (a.tmod 10000) 0) (IntKind.i64.wrap (-a.tmod 10000)) 0 = wrp R C n) (e2 : mov R C (mov R C n 0 (b.tmod 10000)) 0 (IntKind.i64.wrap (-b.tmod 10000)) = wrp R C n)
    (e3 : mov R C n R 0 = wrp R C n) (e4 : mov R C n 0 (cel R C) = wrp R C n)
    (f1 : IntKind.i64.wrap (R - 1) = R - 1) (f2 : IntKind.i64.wrap (wrp R C n + C) = wrp R C n + C)
    (hc : (row R C n = R - 1 ∧ row R C (mov R C n 1 0) = 0 ∧ col R C (mov R C n 1 0) = col R C n) ∨ ((row R C n == R - 1) = false ∧ mov R C n 1 0 = wrp R C n + C ∧ col R C (wrp R C n + C) = col R C n)) :
    Calls Try.prog 4 #[sz R C, .int .i64 n, .int .i64 a, .int .i64 b] w fun e w' => e = .returned (.bool true) ∧ Below w.heap.size w w' := by
  go_enter Try.func4, Try.ntmps4
  go_wp2_with (first
      | (go_at_call 27; (with_reducible refine (awake04 _).mono ?_); rintro e w1 ⟨rfl, hb1⟩; obtain ⟨hc1, hf1, hz1⟩ := after hb1; simp only [World.size_alloc, Nat.add_one_le_iff] at hc1 hf1 hz1; have hy1 := Nat.le_of_lt hz1)
      | (go_at_call 30; (with_reducible refine (c_valid _ _ _).mono ?_); rintro e w2 ⟨rfl, hb2⟩; obtain ⟨hc2, hf2, hz2⟩ := after hb2; simp only [World.size_alloc, Nat.add_one_le_iff] at hc2 hf2 hz2; have hy2 := Nat.le_of_lt hz2)
      | (go_at_call 32; (with_reducible refine (c_wrap _ _ _ _).mono ?_); rintro e w3 ⟨rfl, hb3⟩))
  have B1 := ((Below.refl _ w).alloc (Nat.le_refl _) (.cells #[.int .i64 R, .int .i64 C] 28)).trans (hb1.mono (by simp))
  have B2 := (B1.alloc B1.size (.cells #[.int .i64 R, .int .i64 C] 24)).trans (hb2.mono (by have := B1.size; simp; omega))
  have S3 := keep2 ⟨two_call hb2 (two_alloc (.cells #[.int .i64 R, .int .i64 C] 24) (two_call hb1 (two_new w 28 R C))), two_call hb2 (two_new w1 24 R C), B2⟩ hb3
  clear hc1 hf1 hc2 hf2
  go_region_held3 (fun W => (W.cell? ⟨w.heap.size, 0, none⟩ = some (.int .i64 R) ∧ W.cell? ⟨w.heap.size, 1, none⟩ = some (.int .i64 C) ∧ w.heap.size < W.heap.size) ∧ (W.cell? ⟨w1.heap.size, 0, none⟩ = some (.int .i64 R) ∧ W.cell? ⟨w1.heap.size, 1, none⟩ = some (.int .i64 C) ∧ w1.heap.size < W.heap.size) ∧ Below w.heap.size w W)
    (first | exact ⟨S3.1, S3.2.1, S3.2.2.drew⟩ | exact keep2 (by assumption) (by assumption))
    (first
      | (go_at_call 31; (with_reducible refine (c_move _ _ _ _ _ _).mono ?_); rintro e w4 ⟨rfl, hb4⟩)
      | (go_at_call 33; (with_reducible refine (c_cells _ _ _).mono ?_); rintro e w4 ⟨rfl, hb4⟩))
  rename_i S4
  clear e1 e2 e3 e4
  go_wp2_with (go_at_call 31; (with_reducible refine (c_move _ _ _ _ _ _).mono ?_); rintro e w5 ⟨rfl, hb5⟩)
  have S5 := keep2 S4 hb5
  clear S4
  rcases hc with ⟨e6, e7, e5⟩ | ⟨e6, e7, e5⟩
  all_goals
    refine wp_region_quiet (C := Two w w.heap.size w1.heap.size R C) (by kernel_rfl) (by kernel_rfl) ⟨S5.1, S5.2.1, S5.2.2.drew⟩ ?_
    simp only []
    repeat (first
      | go_big_quiet_skip
      | (go_big_quiet_want; first
          | (go_big_quiet_op; first
              | go_big_quiet_on
              | (go_big_quiet_call ((intro hW; first
                  | exact (c_col _ _ _ _).mono (fun e W' h => ⟨h.1, hW.call h.2⟩)
                  | exact (c_row _ _ _ _).mono (fun e W' h => ⟨h.1, hW.call h.2⟩)))))
          | (apply quiet_of
             · (intro W hW
                obtain ⟨⟨g1, g2, g3⟩, ⟨g4, g5, g6⟩, g7⟩ := hW
                go_simp
                with_reducible rfl)
             simp only [Act.put, List.setIfInBounds_toArray, List.set_cons_zero, List.set_cons_succ]
             go_big_quiet_on)))
    refine wpQuiet_nil ?_
    intro W6 S6
    go_wp2
    go_ret
    exact ⟨rfl, S6.2.2⟩

end Go.Proofs.Ytangandfgbnomaa.V
