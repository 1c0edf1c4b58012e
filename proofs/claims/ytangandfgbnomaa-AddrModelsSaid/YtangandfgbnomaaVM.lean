/- The walk of the law AddrModels: it comes to true at every number. -/
import Derived.Test.YtangandfgbnomaaVA2
namespace Go.Proofs.Ytangandfgbnomaa.V
open Go.RowKit Go.Proofs.YtangandfgbnomaaW.PrintWords Go.Proofs.YtangandfgbnomaaW.PrintLast Go.Proofs.YtangandfgbnomaaW.PrintMore
set_option linter.unusedVariables false
set_option linter.unusedSimpArgs false

set_option maxHeartbeats 1000000 in
theorem models_walk (a0 r c e : Int) (ok : Bool) (h1 : addr_Model.f a0 = some (r, c, e)) (h2 : vitrineref04_Model.f a0 = some (r, c, ok)) (h3 : addr_Size_Valid.f r c = some ok)
    (hc : (r = 24 ∧ c = 80 ∨ r = 32 ∧ c = 80 ∨ r = 43 ∧ c = 80 ∨ r = 27 ∧ c = 132) ∧ e = 0 ∧ ok = true ∨ r = 0 ∧ c = 0 ∧ e = 5 ∧ ok = false) (w : World) :
    Calls Try.prog 3 #[.int .i64 a0] w fun e w' => e = .returned (.bool true) ∧ Below w.heap.size w w' := by
  have H1 := Aside0.mk h1
  have H2 := Aside0.mk h2
  have H3 := Aside0.mk h3
  clear h1 h2 h3
  rcases hc with ⟨(⟨rfl, rfl⟩ | ⟨rfl, rfl⟩ | ⟨rfl, rfl⟩ | ⟨rfl, rfl⟩), rfl, rfl⟩ | ⟨rfl, rfl, rfl, rfl⟩
  all_goals
    go_enter Try.func3, Try.ntmps3
    go_wp2_with (first
      | (go_at_call 27; (with_reducible refine (awake04 _).mono ?_); rintro e w1 ⟨rfl, hb1⟩)
      | (go_at_call 28; (with_reducible refine (addr_Model.calls _ _ _ _ _ H1.out).mono ?_); rintro e w2 ⟨rfl, hb2⟩)
      | (go_at_call 29; (with_reducible refine (vitrineref04_Model.calls _ _ _ _ _ H2.out).mono ?_); rintro e w3 ⟨rfl, hb3⟩; obtain ⟨hc3, hf3⟩ := bcell hb3; simp only [World.size_alloc] at hc3 hf3; have hz3 : w2.heap.size < w3.heap.size := (by have := hb3.size; simp only [World.size_alloc] at this; omega))
      | (go_at_call 30; (with_reducible refine (addr_Size_Valid.calls _ _ _ _ H3.out).mono ?_); rintro e w4 ⟨rfl, hb4⟩))

    go_ret
    refine ⟨rfl, ?_⟩
    have s1 := hb1.size
    have s2 := hb2.size
    have B2 : Below w.heap.size w w2 := hb1.trans (hb2.mono s1)
    have B3 : Below w.heap.size w w3 := (B2.alloc B2.size _).trans (hb3.mono (by simp; omega))
    first
      | exact (B3.alloc B3.size _).trans (hb4.mono (by have := B3.size; simp; omega))
      | exact B3.alloc B3.size _

theorem models_calls (a0 : Int) (w : World) : Calls Try.prog 3 #[.int .i64 a0] w fun e w' => e = .returned (.bool true) ∧ Below w.heap.size w w' := by
  by_cases h2 : a0 = 2
  · subst h2; exact models_walk 2 24 80 0 true (by decide +kernel) (by decide +kernel) (by decide +kernel) (.inl ⟨by omega, rfl, rfl⟩) w
  by_cases h3 : a0 = 3
  · subst h3; exact models_walk 3 32 80 0 true (by decide +kernel) (by decide +kernel) (by decide +kernel) (.inl ⟨by omega, rfl, rfl⟩) w
  by_cases h4 : a0 = 4
  · subst h4; exact models_walk 4 43 80 0 true (by decide +kernel) (by decide +kernel) (by decide +kernel) (.inl ⟨by omega, rfl, rfl⟩) w
  by_cases h5 : a0 = 5
  · subst h5; exact models_walk 5 27 132 0 true (by decide +kernel) (by decide +kernel) (by decide +kernel) (.inl ⟨by omega, rfl, rfl⟩) w
  have e1 : addr_Model.f a0 = some (0, 0, 5) := by
    unfold addr_Model.f
    rw [if_neg h2, if_neg h3, if_neg h4, if_neg h5]
  have e2 : vitrineref04_Model.f a0 = some (0, 0, false) := by
    unfold vitrineref04_Model.f
    by_cases h : a0 < 2
    · rw [if_pos h]
    · rw [if_neg h, if_pos (by omega)]
  exact models_walk a0 0 0 5 false e1 e2 (by decide +kernel) (.inr ⟨rfl, rfl, rfl, rfl⟩) w

end Go.Proofs.Ytangandfgbnomaa.V
