/- The walk of layer 12's awake. -/
import Derived.Test.YtangandfgbnomaaVU8
namespace Go.Proofs.Ytangandfgbnomaa.V
open Go.RowKit Go.Proofs.YtangandfgbnomaaW.PrintWords Go.Proofs.YtangandfgbnomaaW.PrintLast Go.Proofs.YtangandfgbnomaaW.PrintMore
set_option linter.unusedVariables false
set_option linter.unusedSimpArgs false


theorem new_calls (w : World) (m : Int) (hm : 2 ≤ m ∧ m ≤ 5) :
    Calls Try.prog 54 #[.int .i64 m] w fun e w' => ∃ p b, e = .returned (.tuple #[.pointer (some ⟨p, 0, none⟩), .int .i64 0]) ∧ w.heap.size ≤ p ∧ w.heap.size ≤ b ∧ PSp w' p b (S.clr m false) ∧ Keep [] w w' :=
  new_walk w m (msize m).1 (msize m).2 0 (model_f m hm).1 (model_f 2 (by decide)).1
theorem rnew_calls (w : World) (m : Int) (hm : 2 ≤ m ∧ m ≤ 5) :
    Calls Try.prog 55 #[.int .i64 m] w fun e w' => ∃ p b, e = .returned (.pointer (some ⟨p, 0, none⟩)) ∧ w.heap.size ≤ p ∧ w.heap.size ≤ b ∧ RSp w' p b (S.clr m false) ∧ Keep [] w w' :=
  rnew_walk w m (msize m).1 (msize m).2 (model_f m hm).2.1 (model_f 2 (by decide)).2.1

theorem field24_0 : ∀ (a b : Int) (w : World), Sem.run Try.prog (Instr.field 24 (.agg #[.int .i64 a, .int .i64 b]) 0) w = .ok (.int .i64 a) w := fun _ _ _ => by kernel_rfl
theorem field24_1 : ∀ (a b : Int) (w : World), Sem.run Try.prog (Instr.field 24 (.agg #[.int .i64 a, .int .i64 b]) 1) w = .ok (.int .i64 b) w := fun _ _ _ => by kernel_rfl

set_option maxRecDepth 100000 in
set_option maxHeartbeats 2000000 in
theorem awake12 (w : World) : Calls Try.prog 53 #[] w fun e w' => e = .returned (.bool true) ∧ Below w.heap.size w w' := by
  have hn := new_calls w 5 (by decide)
  have fd0 := field24_0
  have fd1 := field24_1
  have HN := Aside0.mk hn
  clear hn
  go_enter Try.func53, Try.ntmps53
  go_wp2_with (go_at_call 54; go_loud (with_reducible refine HN.out.mono ?_); rintro e w1 ⟨p, b, rfl, hp, hb, hs, k1⟩)
  have hsz : ∀ W, Keep [] w1 W → Calls Try.prog 57 #[.pointer (some ⟨p, 0, none⟩)] W fun e w' => e = .returned (.agg #[.int .i64 24, .int .i64 80]) ∧ Below W.heap.size W w' := fun W k => size_calls (hs.keep k (by simp) (by simp))
  have hcl : ∀ W, Keep [] w1 W → Calls Try.prog 99 #[.pointer (some ⟨p, 0, none⟩), .bool true] W fun e w' => e = .returned (.tuple #[]) ∧ ∃ b, W.heap.size ≤ b ∧ PSp w' p b (S.clr 5 true) ∧ Keep [p] W w' := fun W k => clear_calls (hs.keep k (by simp) (by simp)) (by show 2 ≤ (5 : Int) ∧ (5 : Int) ≤ 5; decide) true
  have kr : Keep [] w1 w1 := Keep.refl [] w1
  go_wp2_with (first
    | (go_at_call 57; (with_reducible refine (hsz _ (by assumption)).mono ?_); rintro e w2 ⟨rfl, hb2⟩; have := Keep.call (R := []) (a := w1) (by assumption) hb2)
    | (go_at_call 99; (with_reducible refine (hcl _ (by assumption)).mono ?_); rintro e w3 ⟨rfl, b', hbb, hs3, hk3⟩
       have K3 := Keep.trans (R := [p]) (R' := [p]) (Keep.mono (R := []) (R' := [p]) (a := w1) (by assumption) (by simp)) hk3 (fun x hx => .inl hx)
       have hsz3 : ∀ W, Keep [] w3 W → Calls Try.prog 57 #[.pointer (some ⟨p, 0, none⟩)] W fun e w' => e = .returned (.agg #[.int .i64 27, .int .i64 132]) ∧ Below W.heap.size W w' := fun W k => size_calls (hs3.keep k (by simp) (by simp))
       have kr3 : Keep [] w3 w3 := Keep.refl [] w3)
    | (go_at_call 57; (with_reducible refine (hsz3 _ (by assumption)).mono ?_); rintro e w4 ⟨rfl, hb4⟩; have K4 := Keep.call (R := []) (a := w3) (by assumption) hb4))
  go_ret
  refine ⟨rfl, Keep.below (k1.trans (K3.trans K4 (by simp)) ?_)⟩
  intro x hx; right; simp at hx; omega


end Go.Proofs.Ytangandfgbnomaa.V
