/- Walks of the space's small methods: Size, Cursor, Model, Alternate, Formatted, Place. -/
import Derived.Test.YtangandfgbnomaaVT1
namespace Go.Proofs.Ytangandfgbnomaa.V
open Go.RowKit Go.Proofs.YtangandfgbnomaaW.PrintWords Go.Proofs.YtangandfgbnomaaW.PrintLast Go.Proofs.YtangandfgbnomaaW.PrintMore
set_option linter.unusedVariables false
set_option linter.unusedSimpArgs false

theorem cursor_calls {w : World} {p b : Nat} {s : S} (h : PSp w p b s) :
    Calls Try.prog 64 #[.pointer (some ⟨p, 0, none⟩)] w fun e w' => e = .returned (.int .i64 s.cur) ∧ w = w' := by
  obtain ⟨cap, ex, B, m1, m2, hcap, k0, plt, blt⟩ := h.start
  obtain ⟨r0, r1, r2, r3, r4, r5, r6⟩ := rules_p (R := []) (w0 := w) m1
  clear h
  go_enter Try.func64, Try.ntmps64
  go_wp2
  go_ret
  exact ⟨rfl, rfl⟩

theorem model_calls {w : World} {p b : Nat} {s : S} (h : PSp w p b s) :
    Calls Try.prog 101 #[.pointer (some ⟨p, 0, none⟩)] w fun e w' => e = .returned (.int .i64 s.model) ∧ w = w' := by
  obtain ⟨cap, ex, B, m1, m2, hcap, k0, plt, blt⟩ := h.start
  obtain ⟨r0, r1, r2, r3, r4, r5, r6⟩ := rules_p (R := []) (w0 := w) m1
  clear h
  go_enter Try.func101, Try.ntmps101
  go_wp2
  go_ret
  exact ⟨rfl, rfl⟩

theorem alternate_calls {w : World} {p b : Nat} {s : S} (h : PSp w p b s) :
    Calls Try.prog 102 #[.pointer (some ⟨p, 0, none⟩)] w fun e w' => e = .returned (.bool s.alt) ∧ w = w' := by
  obtain ⟨cap, ex, B, m1, m2, hcap, k0, plt, blt⟩ := h.start
  obtain ⟨r0, r1, r2, r3, r4, r5, r6⟩ := rules_p (R := []) (w0 := w) m1
  clear h
  go_enter Try.func102, Try.ntmps102
  go_wp2
  go_ret
  exact ⟨rfl, rfl⟩

theorem formatted_calls {w : World} {p b : Nat} {s : S} (h : PSp w p b s) :
    Calls Try.prog 103 #[.pointer (some ⟨p, 0, none⟩)] w fun e w' => e = .returned (.bool (decide (0 < cnt s.l))) ∧ w = w' := by
  obtain ⟨cap, ex, B, m1, m2, hcap, k0, plt, blt⟩ := h.start
  obtain ⟨r0, r1, r2, r3, r4, r5, r6⟩ := rules_p (R := []) (w0 := w) m1
  clear h
  go_enter Try.func103, Try.ntmps103
  go_wp2
  go_ret
  exact ⟨by simp, rfl⟩

theorem size_calls {w : World} {p b : Nat} {s : S} (h : PSp w p b s) :
    Calls Try.prog 57 #[.pointer (some ⟨p, 0, none⟩)] w fun e w' => e = .returned (sz s.r s.c) ∧ Below w.heap.size w w' := by
  obtain ⟨cap, ex, B, m1, m2, hcap, k0, plt, blt⟩ := h.start
  obtain ⟨r0, r1, r2, r3, r4, r5, r6⟩ := rules_p (R := []) (w0 := w) m1
  clear h
  go_enter Try.func57, Try.ntmps57
  go_wp2
  refine bodyPost_ret (v := sz s.r s.c) ?_ rfl ⟨rfl, ?_⟩
  · simp only [results, Try.results57]
    go_simp
  · exact (Below.refl _ w).alloc (Nat.le_refl _) _

/-- The cursor put at a number's place. -/
def S.place (s : S) (n : Int) : S := { s with cur := wrp s.r s.c n }

theorem place_calls {w : World} {p b : Nat} {s : S} (h : PSp w p b s) (n : Int) :
    Calls Try.prog 60 #[.pointer (some ⟨p, 0, none⟩), .int .i64 n] w fun e w' => e = .returned (.tuple #[]) ∧ PSp w' p b (s.place n) ∧ Keep [p] w w' := by
  have hne := h.ne
  have h' := h
  obtain ⟨cap, ex, B, m1, m2, hcap, k0, plt, blt⟩ := h'.start
  obtain ⟨r0, r1, r2, r3, r4, r5, r6⟩ := rules_p (R := []) (w0 := w) m1
  have rf := rules_f (R := []) (w0 := w) m1
  clear h'
  go_enter Try.func60, Try.ntmps60
  go_wp2_with (go_at_call 32; (with_reducible refine (c_wrap _ _ _ _).mono ?_); rintro e w1 ⟨rfl, hb1⟩; have k1 := k0.call hb1)
  go_end0
  refine ⟨rfl, ?_, ?_⟩
  · exact ⟨cap, ex, hcap, (k1.blk m1).set 5 _, (k1.blk m2).other (p := ⟨p, 5, none⟩) hne.symm _⟩
  · exact (k1.1.mono (by simp)).setCell (p := ⟨p, 5, none⟩) (by simp) _

end Go.Proofs.Ytangandfgbnomaa.V
