/- Walk of space.New; contracts of Clear and New. -/
import Derived.Test.YtangandfgbnomaaVT5
namespace Go.Proofs.Ytangandfgbnomaa.V
open Go.RowKit Go.Proofs.YtangandfgbnomaaW.PrintWords Go.Proofs.YtangandfgbnomaaW.PrintLast Go.Proofs.YtangandfgbnomaaW.PrintMore
set_option linter.unusedVariables false
set_option linter.unusedSimpArgs false


theorem clear_calls {w : World} {p b : Nat} {s : S} (h : PSp w p b s) (hm : 2 ≤ s.model ∧ s.model ≤ 5) (alt : Bool) :
    Calls Try.prog 99 #[.pointer (some ⟨p, 0, none⟩), .bool alt] w fun e w' => e = .returned (.tuple #[]) ∧ ∃ b, w.heap.size ≤ b ∧ PSp w' p b (S.clr s.model alt) ∧ Keep [p] w w' := by
  obtain ⟨cap, ex, h0, h1, h2⟩ := h
  have h' : 2 ≤ (if alt = true then s.model else 2) ∧ (if alt = true then s.model else 2) ≤ 5 := by split <;> omega
  obtain ⟨f1, f2, f3⟩ := model_f _ h'
  have hp := vld_pos f3
  have e : cel (msize (if alt = true then s.model else 2)).1 (msize (if alt = true then s.model else 2)).2 = (((msize (if alt = true then s.model else 2)).1 * (msize (if alt = true then s.model else 2)).2).toNat : Int) := by unfold cel; rw [if_pos f3]; omega
  exact clear_walk _ _ _ _ _ _ _ _ _ _ _ alt h1 _ f1 f3 e

theorem Blk.new2 (w : World) (o : Obj) (cs : List Value) (t : TypeId) : Blk ((w.alloc o).alloc (.cells cs.toArray t)) (w.heap.size + 1) cs t := by
  have := Blk.new (w.alloc o) cs t
  have e : (w.alloc o).heap.size = w.heap.size + 1 := Array.size_push ..
  rw [e] at this; exact this

theorem World.size_alloc2 (w : World) (o o' : Obj) : ((w.alloc o).alloc o').heap.size = w.heap.size + 2 := (Array.size_push ..).trans (congrArg (· + 1) (Array.size_push ..))

set_option maxRecDepth 100000 in
set_option maxHeartbeats 2000000 in
theorem new_walk (w : World) (m R C' : Int) (N : Nat) (hm : addr_Model.f m = some (R, C', 0)) (hm2 : addr_Model.f 2 = some (24, 80, 0)) :
    Calls Try.prog 54 #[.int .i64 m] w fun e w' => ∃ p b, e = .returned (.tuple #[.pointer (some ⟨p, 0, none⟩), .int .i64 0]) ∧ w.heap.size ≤ p ∧ w.heap.size ≤ b ∧ PSp w' p b { model := m, alt := false, r := 24, c := 80, l := List.replicate 1920 C.zero, cur := 0 } ∧ Keep [] w w' := by
  have HM := Aside0.mk hm
  have HM2 := Aside0.mk hm2
  clear hm hm2
  go_enter Try.func54, Try.ntmps54
  go_wp2_with (first
    | (go_at_call 28; (with_reducible refine (addr_Model.calls _ _ _ _ _ HM.out).mono ?_); rintro e w1 ⟨rfl, hb1⟩
       have hb1' := hb1.size)
    | (go_at_call 99; go_loud (with_reducible refine (clear_walk m 0 0 0 0 24 80 false none 0 0 false (Blk.new2 _ _ [.int .i64 m, .bool false, .int .i64 0, .int .i64 0, .slice none 0 0, .int .i64 0, .int .i64 0] 155) 1920 (by simpa using HM2.out) (by decide +kernel) (by decide +kernel)).mono ?_); rintro e w2 ⟨rfl, b, hbb, hs, hk⟩))
  go_ret2
  refine ⟨_, b, rfl, ?_, ?_, hs, ?_⟩
  · omega
  · have : (((w1.alloc (.cells #[.int .i64 R, .int .i64 C'] 24)).alloc (.cells #[.int .i64 m, .bool false, .int .i64 0, .int .i64 0, .slice none 0 0, .int .i64 0, .int .i64 0] 155))).heap.size = w1.heap.size + 2 := by rw [World.size_alloc2]
    omega
  · exact (((Keep.refl [] w).call hb1).alloc _ |>.alloc _).trans hk (by intro x hx; right; simp at hx; omega)

set_option maxRecDepth 100000 in
set_option maxHeartbeats 2000000 in
theorem new_err (w : World) (m R C' er : Int) (hm : addr_Model.f m = some (R, C', er)) (he : er ≠ 0) :
    Calls Try.prog 54 #[.int .i64 m] w fun e w' => e = .returned (.tuple #[.pointer none, .int .i64 er]) ∧ Below w.heap.size w w' := by
  have HM := Aside0.mk hm
  clear hm
  go_enter Try.func54, Try.ntmps54
  go_wp2_with (first
    | (go_at_call 28; (with_reducible refine (addr_Model.calls _ _ _ _ _ HM.out).mono ?_); rintro e w1 ⟨rfl, hb1⟩
       have hb1' := hb1.size))
  go_ret2
  exact ⟨rfl, hb1.alloc (by omega) _⟩

end Go.Proofs.Ytangandfgbnomaa.V
