/- The walk of Space.Same. -/
import Derived.Test.YtangandfgbnomaaVX2
namespace Go.Proofs.Ytangandfgbnomaa.V
open Go.RowKit Go.Proofs.YtangandfgbnomaaW.PrintWords Go.Proofs.YtangandfgbnomaaW.PrintLast Go.Proofs.YtangandfgbnomaaW.PrintMore
set_option linter.unusedVariables false
set_option linter.unusedSimpArgs false

/-- Two spaces are alike. -/
def S.eqb (s o : S) : Bool := s.model == o.model && (s.alt == o.alt && (s.cur == o.cur && leq s.l o.l))

set_option maxRecDepth 100000 in
set_option maxHeartbeats 4000000 in
theorem same_walk {w : World} {p b q d : Nat} {s o : S} (h : PSp w p b s) (h2 : PSp w q d o) (hl : s.l.length ≤ 3564) (hm : o.l.length ≤ 3564) (q1 q2 q3 : Bool) (e1 : (s.model == o.model) = q1) (e2 : (s.alt == o.alt) = q2) (e3 : (s.cur == o.cur) = q3) :
    Calls Try.prog 66 #[.pointer (some ⟨p, 0, none⟩), .pointer (some ⟨q, 0, none⟩)] w fun e w' => e = .returned (.bool (q1 && (q2 && (q3 && leq s.l o.l)))) ∧ Below w.heap.size w w' := by
  obtain ⟨cap, ex, hcap, g1, g2⟩ := h
  obtain ⟨cap2, ex2, hcap2, f1, f2⟩ := h2
  have plt := g1.lt
  have qlt := f1.lt
  have G : ∀ j, ∀ W, Keep [] w W → W.cell? ⟨p, j, none⟩ = _ := fun j W k => (g1.keep k (by simp)).cell j
  have F : ∀ j, ∀ W, Keep [] w W → W.cell? ⟨q, j, none⟩ = _ := fun j W k => (f1.keep k (by simp)).cell j
  have G0 := G 0
  have G1 := G 1
  have G4 := G 4
  have G5 := G 5
  have F0 := F 0
  have F1 := F 1
  have F4 := F 4
  have F5 := F 5
  clear G F
  simp at G0 G1 G4 G5 F0 F1 F4 F5
  have hE : ∀ W, Keep [] w W → Calls Try.prog 106 #[.slice (some ⟨b, 0, none⟩) s.l.length cap, .slice (some ⟨d, 0, none⟩) o.l.length cap2] W fun e w' => e = .returned (.bool (leq s.l o.l)) ∧ Below W.heap.size W w' := fun W k => equal_calls cap cap2 (g2.keep k (by simp)) (f2.keep k (by simp)) hl hm
  have K0 : Keep [] w w.drew := (Keep.refl [] w).drew
  generalize leq s.l o.l = q4 at *
  clear g1 g2 f1 f2 hcap hcap2
  have hnil := ptr_nil61
  cases q1
  all_goals cases q2
  all_goals cases q3
  all_goals
    go_enter Try.func66, Try.ntmps66
    go_wp2_with fail
    refine wp_quiet_all (K := fun W => Keep [] w W) (by kernel_rfl) (by kernel_rfl) K0 ?_
    repeat (first
      | go_big_quiet_skip
      | (go_big_quiet_want; first
          | (go_big_quiet_op; first
              | go_big_quiet_on
              | (go_big_quiet_call ((intro hW; first
                  | exact Calls.mono (hE _ hW) (fun e W' h => ⟨h.1, hW.call h.2⟩)))))
          | (apply quiet_of
             · (intro W hW
                go_simp
                with_reducible rfl)
             simp only [Act.put, List.setIfInBounds_toArray, List.set_cons_zero, List.set_cons_succ]
             go_big_quiet_on)))
    refine wpQuiet_nil ?_
    intro W2 k2
    clear K0
    go_wp2
    go_ret
    exact ⟨rfl, k2.below⟩

theorem same_calls {w : World} {p b q d : Nat} {s o : S} (h : PSp w p b s) (h2 : PSp w q d o) (hl : s.l.length ≤ 3564) (hm : o.l.length ≤ 3564) :
    Calls Try.prog 66 #[.pointer (some ⟨p, 0, none⟩), .pointer (some ⟨q, 0, none⟩)] w fun e w' => e = .returned (.bool (s.eqb o)) ∧ Below w.heap.size w w' := same_walk h h2 hl hm _ _ _ rfl rfl rfl
theorem S.eqb_self (s : S) : s.eqb s = true := by
  have : leq s.l s.l = true := (leq_iff _ _).2 rfl
  simp [S.eqb, this]

end Go.Proofs.Ytangandfgbnomaa.V
