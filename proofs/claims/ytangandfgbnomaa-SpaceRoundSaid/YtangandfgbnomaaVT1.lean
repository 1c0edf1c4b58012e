/- Rules of the walk on a space in memory; the walk of Space.At: the cell of a number's place. -/
import Derived.Test.YtangandfgbnomaaVQ
namespace Go.Proofs.Ytangandfgbnomaa.V
open Go.RowKit Go.Proofs.YtangandfgbnomaaW.PrintWords Go.Proofs.YtangandfgbnomaaW.PrintLast Go.Proofs.YtangandfgbnomaaW.PrintMore
set_option linter.unusedVariables false
set_option linter.unusedSimpArgs false

/-- The block of the program's space. -/
def pb (s : S) (b cap : Nat) : List Value := [.int .i64 s.model, .bool s.alt, .int .i64 s.r, .int .i64 s.c, .slice (some ⟨b, 0, none⟩) s.l.length cap, .int .i64 s.cur, .int .i64 (cnt s.l)]
/-- The block of the reference's. -/
def rb (s : S) (b cap : Nat) : List Value := [.int .i64 s.model, .bool s.alt, .int .i64 s.r, .int .i64 s.c, .slice (some ⟨b, 0, none⟩) s.l.length cap, .int .i64 s.cur]
/-- A cell that is new. -/
def zb : List Value := [.int .u8 0, .bool false, .int .u8 0, .int .u8 0, .int .u8 0, .int .u8 0]

abbrev Known := List (Nat × List Value × TypeId)

theorem PSp.start {w : World} {p b : Nat} {s : S} (h : PSp w p b s) : ∃ (cap : Nat) (ex : List Value) (B : Known), (p, pb s b cap, 155) ∈ B ∧ (b, flat s.l ++ ex, 60) ∈ B ∧ s.l.length ≤ cap ∧ Kn [] w B w ∧ p < w.heap.size ∧ b < w.heap.size := by
  obtain ⟨cap, ex, h0, h1, h2⟩ := h
  refine ⟨cap, ex, [(p, pb s b cap, 155), (b, flat s.l ++ ex, 60)], List.mem_cons_self .., List.mem_cons_of_mem _ (List.mem_cons_self ..), h0, ⟨Keep.refl _ _, ?_⟩, h1.lt, h2.lt⟩
  intro x hx
  rcases List.mem_cons.1 hx with rfl | hx
  · exact h1
  · rcases List.mem_cons.1 hx with rfl | hx
    · exact h2
    · cases hx
theorem RSp.start {w : World} {p b : Nat} {s : S} (h : RSp w p b s) : ∃ (cap : Nat) (ex : List Value) (B : Known), (p, rb s b cap, 98) ∈ B ∧ (b, flat s.l ++ ex, 60) ∈ B ∧ s.l.length ≤ cap ∧ Kn [] w B w ∧ p < w.heap.size ∧ b < w.heap.size := by
  obtain ⟨cap, ex, h0, h1, h2⟩ := h
  refine ⟨cap, ex, [(p, rb s b cap, 98), (b, flat s.l ++ ex, 60)], List.mem_cons_self .., List.mem_cons_of_mem _ (List.mem_cons_self ..), h0, ⟨Keep.refl _ _, ?_⟩, h1.lt, h2.lt⟩
  intro x hx
  rcases List.mem_cons.1 hx with rfl | hx
  · exact h1
  · rcases List.mem_cons.1 hx with rfl | hx
    · exact h2
    · cases hx

section
variable {R : List Nat} {w0 : World} {B : Known} {p b cap i : Nat} {s : S} {l : List C} {ex : List Value}
theorem rules_p (m : (p, pb s b cap, 155) ∈ B) : (∀ W, Kn R w0 B W → W.cell? ⟨p, 0, none⟩ = some (.int .i64 s.model)) ∧ (∀ W, Kn R w0 B W → W.cell? ⟨p, 1, none⟩ = some (.bool s.alt)) ∧ (∀ W, Kn R w0 B W → W.cell? ⟨p, 2, none⟩ = some (.int .i64 s.r)) ∧
    (∀ W, Kn R w0 B W → W.cell? ⟨p, 3, none⟩ = some (.int .i64 s.c)) ∧ (∀ W, Kn R w0 B W → W.cell? ⟨p, 4, none⟩ = some (.slice (some ⟨b, 0, none⟩) s.l.length cap)) ∧ (∀ W, Kn R w0 B W → W.cell? ⟨p, 5, none⟩ = some (.int .i64 s.cur)) ∧
    (∀ W, Kn R w0 B W → W.cell? ⟨p, 6, none⟩ = some (.int .i64 (cnt s.l))) :=
  ⟨fun _ h => h.cell m 0, fun _ h => h.cell m 1, fun _ h => h.cell m 2, fun _ h => h.cell m 3, fun _ h => h.cell m 4, fun _ h => h.cell m 5, fun _ h => h.cell m 6⟩
theorem rules_r (m : (p, rb s b cap, 98) ∈ B) : (∀ W, Kn R w0 B W → W.cell? ⟨p, 0, none⟩ = some (.int .i64 s.model)) ∧ (∀ W, Kn R w0 B W → W.cell? ⟨p, 1, none⟩ = some (.bool s.alt)) ∧ (∀ W, Kn R w0 B W → W.cell? ⟨p, 2, none⟩ = some (.int .i64 s.r)) ∧
    (∀ W, Kn R w0 B W → W.cell? ⟨p, 3, none⟩ = some (.int .i64 s.c)) ∧ (∀ W, Kn R w0 B W → W.cell? ⟨p, 4, none⟩ = some (.slice (some ⟨b, 0, none⟩) s.l.length cap)) ∧ (∀ W, Kn R w0 B W → W.cell? ⟨p, 5, none⟩ = some (.int .i64 s.cur)) :=
  ⟨fun _ h => h.cell m 0, fun _ h => h.cell m 1, fun _ h => h.cell m 2, fun _ h => h.cell m 3, fun _ h => h.cell m 4, fun _ h => h.cell m 5⟩
theorem rules_f {cs : List Value} {t : TypeId} (m : (p, cs, t) ∈ B) : ∀ W j, Kn R w0 B W → W.frozen? ⟨p, j, none⟩ = false := fun _ j h => h.frozen m j
theorem rules_z (m : (p, zb, 60) ∈ B) : (∀ W, Kn R w0 B W → W.cell? ⟨p, 0, none⟩ = some (.int .u8 0)) ∧ (∀ W, Kn R w0 B W → W.cell? ⟨p, 1, none⟩ = some (.bool false)) ∧ (∀ W, Kn R w0 B W → W.cell? ⟨p, 2, none⟩ = some (.int .u8 0)) ∧
    (∀ W, Kn R w0 B W → W.cell? ⟨p, 3, none⟩ = some (.int .u8 0)) ∧ (∀ W, Kn R w0 B W → W.cell? ⟨p, 4, none⟩ = some (.int .u8 0)) ∧ (∀ W, Kn R w0 B W → W.cell? ⟨p, 5, none⟩ = some (.int .u8 0)) :=
  ⟨fun _ h => h.cell m 0, fun _ h => h.cell m 1, fun _ h => h.cell m 2, fun _ h => h.cell m 3, fun _ h => h.cell m 4, fun _ h => h.cell m 5⟩
theorem rules_b (m : (b, flat l ++ ex, 60) ∈ B) (hi : i < l.length) : (∀ W, Kn R w0 B W → W.cell? ⟨b, i * 6, none⟩ = some (.int .u8 (l.getD i C.zero).ch)) ∧ (∀ W, Kn R w0 B W → W.cell? ⟨b, i * 6 + 1, none⟩ = some (.bool (l.getD i C.zero).at_)) ∧
    (∀ W, Kn R w0 B W → W.cell? ⟨b, i * 6 + 2, none⟩ = some (.int .u8 (l.getD i C.zero).fa)) ∧ (∀ W, Kn R w0 B W → W.cell? ⟨b, i * 6 + 3, none⟩ = some (.int .u8 (l.getD i C.zero).hi)) ∧
    (∀ W, Kn R w0 B W → W.cell? ⟨b, i * 6 + 4, none⟩ = some (.int .u8 (l.getD i C.zero).co)) ∧ (∀ W, Kn R w0 B W → W.cell? ⟨b, i * 6 + 5, none⟩ = some (.int .u8 (l.getD i C.zero).se)) := by
  rw [Nat.mul_comm i 6]
  exact ⟨fun _ h => (six_cells (h.blk m) i hi).1, fun _ h => (six_cells (h.blk m) i hi).2.1, fun _ h => (six_cells (h.blk m) i hi).2.2.1, fun _ h => (six_cells (h.blk m) i hi).2.2.2.1, fun _ h => (six_cells (h.blk m) i hi).2.2.2.2.1, fun _ h => (six_cells (h.blk m) i hi).2.2.2.2.2⟩
end

theorem Keep.set6 {R : List Nat} {w W : World} (h : Keep R w W) (v0 v1 v2 v3 v4 v5 : Value) :
    Keep R w ((((((W.setCell ⟨w.heap.size, 0, none⟩ v0).setCell ⟨w.heap.size, 1, none⟩ v1).setCell ⟨w.heap.size, 2, none⟩ v2).setCell ⟨w.heap.size, 3, none⟩ v3).setCell ⟨w.heap.size, 4, none⟩ v4).setCell ⟨w.heap.size, 5, none⟩ v5) :=
  (((((h.setCell (p := ⟨w.heap.size, 0, none⟩) (.inr (Nat.le_refl _)) v0).setCell (p := ⟨w.heap.size, 1, none⟩) (.inr (Nat.le_refl _)) v1).setCell (p := ⟨w.heap.size, 2, none⟩) (.inr (Nat.le_refl _)) v2).setCell (p := ⟨w.heap.size, 3, none⟩) (.inr (Nat.le_refl _)) v3).setCell (p := ⟨w.heap.size, 4, none⟩) (.inr (Nat.le_refl _)) v4).setCell (p := ⟨w.heap.size, 5, none⟩) (.inr (Nat.le_refl _)) v5

set_option maxHeartbeats 1000000 in
theorem at_calls {w : World} {p b : Nat} {s : S} (h : PSp w p b s) (ok : s.ok) (n : Int) :
    Calls Try.prog 58 #[.pointer (some ⟨p, 0, none⟩), .int .i64 n] w fun e w' => e = .returned (s.get n).v ∧ Below w.heap.size w w' := by
  obtain ⟨cap, ex, B, m1, m2, hcap, k0, plt, blt⟩ := h.start
  obtain ⟨hix, hlt, hN, hN1⟩ := ok.ix n
  have hget : s.get n = s.l.getD (s.ix n) C.zero := rfl
  generalize hi : s.ix n = i at *
  have HG := Aside0.mk hget
  clear hget hi h
  have k1 := k0.new zb 60
  obtain ⟨B1, hB1⟩ : ∃ B1, B1 = (w.heap.size, zb, 60) :: B := ⟨_, rfl⟩
  rw [← hB1] at k1
  have m0 : (w.heap.size, zb, 60) ∈ B1 := by rw [hB1]; exact List.mem_cons_self ..
  replace m1 : (p, pb s b cap, 155) ∈ B1 := by rw [hB1]; exact List.mem_cons_of_mem _ m1
  replace m2 : (b, flat s.l ++ ex, 60) ∈ B1 := by rw [hB1]; exact List.mem_cons_of_mem _ m2
  clear hB1
  obtain ⟨_, _, r2, r3, r4, _, _⟩ := rules_p (R := []) (w0 := w) m1
  obtain ⟨x0, x1, x2, x3, x4, x5⟩ := rules_b (R := []) (w0 := w) m2 hlt
  obtain ⟨z0, z1, z2, z3, z4, z5⟩ := rules_z (R := []) (w0 := w) m0
  have zf := rules_f (R := []) (w0 := w) m0
  have i1 : (0 : Int) ≤ (i : Int) := by omega
  have i2 : (i : Int) < (s.l.length : Int) := by omega
  have K1 := Aside0.mk k1
  clear m0 m1 m2 k0 k1 hcap
  go_enter Try.func58, Try.ntmps58
  go_wp2
  have k1 := K1.out
  clear K1
  refine wp_quiet_tail (K := Kn [] w B1) 12 (by kernel_rfl) (by kernel_rfl) k1.drew ?_
  simp only [List.take_succ_cons, List.take_zero, List.drop_succ_cons, List.drop_zero]
  repeat (first
    | go_big_quiet_skip
    | (go_big_quiet_want; first
        | (go_big_quiet_op; first
            | go_big_quiet_on
            | (go_big_quiet_call ((intro hW; first
                | exact Calls.mono (c_wrap _ _ _ _) (fun e W' h => ⟨h.1, hW.call h.2⟩)))))
        | (apply quiet_of
           · (intro W hW
              go_simp
              with_reducible rfl)
           simp only [Act.put, List.setIfInBounds_toArray, List.set_cons_zero, List.set_cons_succ]
           go_big_quiet_on)))
  refine wpQuiet_nil ?_
  intro W hW
  go_wp2
  refine bodyPost_ret (v := s.l[i].v) ?_ rfl ⟨?_, ?_⟩
  · simp only [results, Try.results58]
    go_simp
  · rw [HG.out, List.getD_eq_getElem?_getD, List.getElem?_eq_getElem hlt]; rfl
  · exact (hW.1.set6 _ _ _ _ _ _).below

end Go.Proofs.Ytangandfgbnomaa.V
