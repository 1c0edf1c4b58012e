/- Rules of the walk on a space in memory; the walk of Space.At: the cell of a number's place. Walks of the space's small methods: Size, Cursor, Model, Alternate, Formatted, Place. Walks of Space.Set and Space.Put. Walks of Space.Put; Space.Set for every cell. Walks of Space.Clear and space.New. Walk of space.New; contracts of Clear and New. -/
import Derived.Test.YtangandfgbnomaaVB
namespace Go.Proofs.Ytangandfgbnomaa.V
open Go.RowKit
set_option linter.unusedVariables false
set_option linter.unusedSimpArgs false

/-- The block of the program's space. -/
def pb (s : S) (b cap : Nat) : List Value := [.int .i64 s.model, .bool s.alt, .int .i64 s.r, .int .i64 s.c, .slice (some ⟨b, 0, none⟩) s.l.length cap, .int .i64 s.cur, .int .i64 (cnt s.l)]
/-- The block of the reference's. -/
def rb (s : S) (b cap : Nat) : List Value := [.int .i64 s.model, .bool s.alt, .int .i64 s.r, .int .i64 s.c, .slice (some ⟨b, 0, none⟩) s.l.length cap, .int .i64 s.cur]
/-- A cell that is new. -/
def zb : List Value := [.int .u8 0, .bool false, .int .u8 0, .int .u8 0, .int .u8 0, .int .u8 0]

abbrev Known := List (Nat × List Value × TypeId)

theorem PSp.start {w : World} {p b : Nat} {s : S} (h : PSp w p b s) : ∃ (cap : Nat) (ex : List Value) (B : Known), (p, pb s b cap, 155) ∈ B ∧ (b, flat s.l ++ ex, 60) ∈ B ∧ s.l.length ≤ cap ∧ Kn [] w B w ∧ p < w.heap.size ∧ b < w.heap.size := by
  obtain ⟨cap, ex, h0, h1, h2⟩ := h
  refine ⟨cap, ex, [(p, pb s b cap, 155), (b, flat s.l ++ ex, 60)], List.mem_cons_self .., List.mem_cons_of_mem _ (List.mem_cons_self ..), h0, ⟨Keep.refl _ _, ?_⟩, h1.lt, h2.lt⟩
  intro x hx
  rcases List.mem_cons.1 hx with rfl | hx
  · exact h1
  · rcases List.mem_cons.1 hx with rfl | hx
    · exact h2
    · cases hx
theorem RSp.start {w : World} {p b : Nat} {s : S} (h : RSp w p b s) : ∃ (cap : Nat) (ex : List Value) (B : Known), (p, rb s b cap, 98) ∈ B ∧ (b, flat s.l ++ ex, 60) ∈ B ∧ s.l.length ≤ cap ∧ Kn [] w B w ∧ p < w.heap.size ∧ b < w.heap.size := by
  obtain ⟨cap, ex, h0, h1, h2⟩ := h
  refine ⟨cap, ex, [(p, rb s b cap, 98), (b, flat s.l ++ ex, 60)], List.mem_cons_self .., List.mem_cons_of_mem _ (List.mem_cons_self ..), h0, ⟨Keep.refl _ _, ?_⟩, h1.lt, h2.lt⟩
  intro x hx
  rcases List.mem_cons.1 hx with rfl | hx
  · exact h1
  · rcases List.mem_cons.1 hx with rfl | hx
    · exact h2
    · cases hx

section
variable {R : List Nat} {w0 : World} {B : Known} {p b cap i : Nat} {s : S} {l : List C} {ex : List Value}
theorem rules_p (m : (p, pb s b cap, 155) ∈ B) : (∀ W, Kn R w0 B W → W.cell? ⟨p, 0, none⟩ = some (.int .i64 s.model)) ∧ (∀ W, Kn R w0 B W → W.cell? ⟨p, 1, none⟩ = some (.bool s.alt)) ∧ (∀ W, Kn R w0 B W → W.cell? ⟨p, 2, none⟩ = some (.int .i64 s.r)) ∧
    (∀ W, Kn R w0 B W → W.cell? ⟨p, 3, none⟩ = some (.int .i64 s.c)) ∧ (∀ W, Kn R w0 B W → W.cell? ⟨p, 4, none⟩ = some (.slice (some ⟨b, 0, none⟩) s.l.length cap)) ∧ (∀ W, Kn R w0 B W → W.cell? ⟨p, 5, none⟩ = some (.int .i64 s.cur)) ∧
    (∀ W, Kn R w0 B W → W.cell? ⟨p, 6, none⟩ = some (.int .i64 (cnt s.l))) :=
  ⟨fun _ h => h.cell m 0, fun _ h => h.cell m 1, fun _ h => h.cell m 2, fun _ h => h.cell m 3, fun _ h => h.cell m 4, fun _ h => h.cell m 5, fun _ h => h.cell m 6⟩
theorem rules_r (m : (p, rb s b cap, 98) ∈ B) : (∀ W, Kn R w0 B W → W.cell? ⟨p, 0, none⟩ = some (.int .i64 s.model)) ∧ (∀ W, Kn R w0 B W → W.cell? ⟨p, 1, none⟩ = some (.bool s.alt)) ∧ (∀ W, Kn R w0 B W → W.cell? ⟨p, 2, none⟩ = some (.int .i64 s.r)) ∧
    (∀ W, Kn R w0 B W → W.cell? ⟨p, 3, none⟩ = some (.int .i64 s.c)) ∧ (∀ W, Kn R w0 B W → W.cell? ⟨p, 4, none⟩ = some (.slice (some ⟨b, 0, none⟩) s.l.length cap)) ∧ (∀ W, Kn R w0 B W → W.cell? ⟨p, 5, none⟩ = some (.int .i64 s.cur)) :=
  ⟨fun _ h => h.cell m 0, fun _ h => h.cell m 1, fun _ h => h.cell m 2, fun _ h => h.cell m 3, fun _ h => h.cell m 4, fun _ h => h.cell m 5⟩
theorem rules_f {cs : List Value} {t : TypeId} (m : (p, cs, t) ∈ B) : ∀ W j, Kn R w0 B W → W.frozen? ⟨p, j, none⟩ = false := fun _ j h => h.frozen m j
theorem rules_z (m : (p, zb, 60) ∈ B) : (∀ W, Kn R w0 B W → W.cell? ⟨p, 0, none⟩ = some (.int .u8 0)) ∧ (∀ W, Kn R w0 B W → W.cell? ⟨p, 1, none⟩ = some (.bool false)) ∧ (∀ W, Kn R w0 B W → W.cell? ⟨p, 2, none⟩ = some (.int .u8 0)) ∧
    (∀ W, Kn R w0 B W → W.cell? ⟨p, 3, none⟩ = some (.int .u8 0)) ∧ (∀ W, Kn R w0 B W → W.cell? ⟨p, 4, none⟩ = some (.int .u8 0)) ∧ (∀ W, Kn R w0 B W → W.cell? ⟨p, 5, none⟩ = some (.int .u8 0)) :=
  ⟨fun _ h => h.cell m 0, fun _ h => h.cell m 1, fun _ h => h.cell m 2, fun _ h => h.cell m 3, fun _ h => h.cell m 4, fun _ h => h.cell m 5⟩
theorem rules_b (m : (b, flat l ++ ex, 60) ∈ B) (hi : i < l.length) : (∀ W, Kn R w0 B W → W.cell? ⟨b, i * 6, none⟩ = some (.int .u8 (l.getD i C.zero).ch)) ∧ (∀ W, Kn R w0 B W → W.cell? ⟨b, i * 6 + 1, none⟩ = some (.bool (l.getD i C.zero).at_)) ∧
    (∀ W, Kn R w0 B W → W.cell? ⟨b, i * 6 + 2, none⟩ = some (.int .u8 (l.getD i C.zero).fa)) ∧ (∀ W, Kn R w0 B W → W.cell? ⟨b, i * 6 + 3, none⟩ = some (.int .u8 (l.getD i C.zero).hi)) ∧
    (∀ W, Kn R w0 B W → W.cell? ⟨b, i * 6 + 4, none⟩ = some (.int .u8 (l.getD i C.zero).co)) ∧ (∀ W, Kn R w0 B W → W.cell? ⟨b, i * 6 + 5, none⟩ = some (.int .u8 (l.getD i C.zero).se)) := by
  rw [Nat.mul_comm i 6]
  exact ⟨fun _ h => (six_cells (h.blk m) i hi).1, fun _ h => (six_cells (h.blk m) i hi).2.1, fun _ h => (six_cells (h.blk m) i hi).2.2.1, fun _ h => (six_cells (h.blk m) i hi).2.2.2.1, fun _ h => (six_cells (h.blk m) i hi).2.2.2.2.1, fun _ h => (six_cells (h.blk m) i hi).2.2.2.2.2⟩
end

theorem Keep.set6 {R : List Nat} {w W : World} (h : Keep R w W) (v0 v1 v2 v3 v4 v5 : Value) :
    Keep R w ((((((W.setCell ⟨w.heap.size, 0, none⟩ v0).setCell ⟨w.heap.size, 1, none⟩ v1).setCell ⟨w.heap.size, 2, none⟩ v2).setCell ⟨w.heap.size, 3, none⟩ v3).setCell ⟨w.heap.size, 4, none⟩ v4).setCell ⟨w.heap.size, 5, none⟩ v5) :=
  (((((h.setCell (p := ⟨w.heap.size, 0, none⟩) (.inr (Nat.le_refl _)) v0).setCell (p := ⟨w.heap.size, 1, none⟩) (.inr (Nat.le_refl _)) v1).setCell (p := ⟨w.heap.size, 2, none⟩) (.inr (Nat.le_refl _)) v2).setCell (p := ⟨w.heap.size, 3, none⟩) (.inr (Nat.le_refl _)) v3).setCell (p := ⟨w.heap.size, 4, none⟩) (.inr (Nat.le_refl _)) v4).setCell (p := ⟨w.heap.size, 5, none⟩) (.inr (Nat.le_refl _)) v5

set_option maxHeartbeats 1000000 in
theorem at_calls {w : World} {p b : Nat} {s : S} (h : PSp w p b s) (ok : s.ok) (n : Int) :
    Calls Try.prog 58 #[.pointer (some ⟨p, 0, none⟩), .int .i64 n] w fun e w' => e = .returned (s.get n).v ∧ Below w.heap.size w w' := by
  obtain ⟨cap, ex, B, m1, m2, hcap, k0, plt, blt⟩ := h.start
  obtain ⟨hix, hlt, hN, hN1⟩ := ok.ix n
  have hget : s.get n = s.l.getD (s.ix n) C.zero := rfl
  generalize hi : s.ix n = i at *
  have HG := Aside0.mk hget
  clear hget hi h
  have k1 := k0.new zb 60
  obtain ⟨B1, hB1⟩ : ∃ B1, B1 = (w.heap.size, zb, 60) :: B := ⟨_, rfl⟩
  rw [← hB1] at k1
  have m0 : (w.heap.size, zb, 60) ∈ B1 := by rw [hB1]; exact List.mem_cons_self ..
  replace m1 : (p, pb s b cap, 155) ∈ B1 := by rw [hB1]; exact List.mem_cons_of_mem _ m1
  replace m2 : (b, flat s.l ++ ex, 60) ∈ B1 := by rw [hB1]; exact List.mem_cons_of_mem _ m2
  clear hB1
  obtain ⟨_, _, r2, r3, r4, _, _⟩ := rules_p (R := []) (w0 := w) m1
  obtain ⟨x0, x1, x2, x3, x4, x5⟩ := rules_b (R := []) (w0 := w) m2 hlt
  obtain ⟨z0, z1, z2, z3, z4, z5⟩ := rules_z (R := []) (w0 := w) m0
  have zf := rules_f (R := []) (w0 := w) m0
  have i1 : (0 : Int) ≤ (i : Int) := by omega
  have i2 : (i : Int) < (s.l.length : Int) := by omega
  have K1 := Aside0.mk k1
  clear m0 m1 m2 k0 k1 hcap
  go_enter Try.func58, Try.ntmps58
  go_wp2
  have k1 := K1.out
  clear K1
  refine wp_quiet_tail (K := Kn [] w B1) 12 (by kernel_rfl) (by kernel_rfl) k1.drew ?_
  simp only [List.take_succ_cons, List.take_zero, List.drop_succ_cons, List.drop_zero]
  repeat (first
    | go_big_quiet_skip
    | (go_big_quiet_want; first
        | (go_big_quiet_op; first
            | go_big_quiet_on
            | (go_big_quiet_call ((intro hW; first
                | exact Calls.mono (c_wrap _ _ _ _) (fun e W' h => ⟨h.1, hW.call h.2⟩)))))
        | (apply quiet_of
           · (intro W hW
              go_simp
              with_reducible rfl)
           simp only [Act.put, List.setIfInBounds_toArray, List.set_cons_zero, List.set_cons_succ]
           go_big_quiet_on)))
  refine wpQuiet_nil ?_
  intro W hW
  go_wp2
  refine bodyPost_ret (v := s.l[i].v) ?_ rfl ⟨?_, ?_⟩
  · simp only [results, Try.results58]
    go_simp
  · rw [HG.out, List.getD_eq_getElem?_getD, List.getElem?_eq_getElem hlt]; rfl
  · exact (hW.1.set6 _ _ _ _ _ _).below

end Go.Proofs.Ytangandfgbnomaa.V

namespace Go.Proofs.Ytangandfgbnomaa.V
open Go.RowKit
set_option linter.unusedVariables false
set_option linter.unusedSimpArgs false

theorem cursor_calls {w : World} {p b : Nat} {s : S} (h : PSp w p b s) :
    Calls Try.prog 64 #[.pointer (some ⟨p, 0, none⟩)] w fun e w' => e = .returned (.int .i64 s.cur) ∧ w = w' := by
  obtain ⟨cap, ex, B, m1, m2, hcap, k0, plt, blt⟩ := h.start
  obtain ⟨r0, r1, r2, r3, r4, r5, r6⟩ := rules_p (R := []) (w0 := w) m1
  clear h
  go_enter Try.func64, Try.ntmps64
  go_wp2
  go_ret
  exact ⟨rfl, rfl⟩

theorem model_calls {w : World} {p b : Nat} {s : S} (h : PSp w p b s) :
    Calls Try.prog 101 #[.pointer (some ⟨p, 0, none⟩)] w fun e w' => e = .returned (.int .i64 s.model) ∧ w = w' := by
  obtain ⟨cap, ex, B, m1, m2, hcap, k0, plt, blt⟩ := h.start
  obtain ⟨r0, r1, r2, r3, r4, r5, r6⟩ := rules_p (R := []) (w0 := w) m1
  clear h
  go_enter Try.func101, Try.ntmps101
  go_wp2
  go_ret
  exact ⟨rfl, rfl⟩

theorem alternate_calls {w : World} {p b : Nat} {s : S} (h : PSp w p b s) :
    Calls Try.prog 102 #[.pointer (some ⟨p, 0, none⟩)] w fun e w' => e = .returned (.bool s.alt) ∧ w = w' := by
  obtain ⟨cap, ex, B, m1, m2, hcap, k0, plt, blt⟩ := h.start
  obtain ⟨r0, r1, r2, r3, r4, r5, r6⟩ := rules_p (R := []) (w0 := w) m1
  clear h
  go_enter Try.func102, Try.ntmps102
  go_wp2
  go_ret
  exact ⟨rfl, rfl⟩

theorem formatted_calls {w : World} {p b : Nat} {s : S} (h : PSp w p b s) :
    Calls Try.prog 103 #[.pointer (some ⟨p, 0, none⟩)] w fun e w' => e = .returned (.bool (decide (0 < cnt s.l))) ∧ w = w' := by
  obtain ⟨cap, ex, B, m1, m2, hcap, k0, plt, blt⟩ := h.start
  obtain ⟨r0, r1, r2, r3, r4, r5, r6⟩ := rules_p (R := []) (w0 := w) m1
  clear h
  go_enter Try.func103, Try.ntmps103
  go_wp2
  go_ret
  exact ⟨by simp, rfl⟩

theorem size_calls {w : World} {p b : Nat} {s : S} (h : PSp w p b s) :
    Calls Try.prog 57 #[.pointer (some ⟨p, 0, none⟩)] w fun e w' => e = .returned (sz s.r s.c) ∧ Below w.heap.size w w' := by
  obtain ⟨cap, ex, B, m1, m2, hcap, k0, plt, blt⟩ := h.start
  obtain ⟨r0, r1, r2, r3, r4, r5, r6⟩ := rules_p (R := []) (w0 := w) m1
  clear h
  go_enter Try.func57, Try.ntmps57
  go_wp2
  refine bodyPost_ret (v := sz s.r s.c) ?_ rfl ⟨rfl, ?_⟩
  · simp only [results, Try.results57]
    go_simp
  · exact (Below.refl _ w).alloc (Nat.le_refl _) _

/-- The cursor put at a number's place. -/
def S.place (s : S) (n : Int) : S := { s with cur := wrp s.r s.c n }

theorem place_calls {w : World} {p b : Nat} {s : S} (h : PSp w p b s) (n : Int) :
    Calls Try.prog 60 #[.pointer (some ⟨p, 0, none⟩), .int .i64 n] w fun e w' => e = .returned (.tuple #[]) ∧ PSp w' p b (s.place n) ∧ Keep [p] w w' := by
  have hne := h.ne
  have h' := h
  obtain ⟨cap, ex, B, m1, m2, hcap, k0, plt, blt⟩ := h'.start
  obtain ⟨r0, r1, r2, r3, r4, r5, r6⟩ := rules_p (R := []) (w0 := w) m1
  have rf := rules_f (R := []) (w0 := w) m1
  clear h'
  go_enter Try.func60, Try.ntmps60
  go_wp2_with (go_at_call 32; (with_reducible refine (c_wrap _ _ _ _).mono ?_); rintro e w1 ⟨rfl, hb1⟩; have k1 := k0.call hb1)
  go_end0
  refine ⟨rfl, ?_, ?_⟩
  · exact ⟨cap, ex, hcap, (k1.blk m1).set 5 _, (k1.blk m2).other (p := ⟨p, 5, none⟩) hne.symm _⟩
  · exact (k1.1.mono (by simp)).setCell (p := ⟨p, 5, none⟩) (by simp) _

end Go.Proofs.Ytangandfgbnomaa.V

namespace Go.Proofs.Ytangandfgbnomaa.V
open Go.RowKit
set_option linter.unusedVariables false
set_option linter.unusedSimpArgs false

/-- A cell as it may stand. -/
def fitc (c : C) : C := if c.at_ = true then { c with ch := 0, fa := bits .and .u8 c.fa 61 } else { c with fa := 0 }
def S.set (s : S) (n : Int) (c : C) : S := { s with l := s.l.set (s.ix n) (fitc c) }
def S.put (s : S) (n : Int) (x : Int) : S := if (s.get n).at_ = true then s else { s with l := s.l.set (s.ix n) { s.get n with ch := x } }

/-- Its numbers are bytes. -/
def C.wf (c : C) : Prop := (0 ≤ c.ch ∧ c.ch < 256) ∧ (0 ≤ c.fa ∧ c.fa < 256) ∧ (0 ≤ c.hi ∧ c.hi < 256) ∧ (0 ≤ c.co ∧ c.co < 256) ∧ (0 ≤ c.se ∧ c.se < 256)

def one (b : Bool) : Int := if b = true then 1 else 0

theorem cnt_nil : cnt [] = 0 := rfl
theorem cnt_cons (c : C) (l : List C) : cnt (c :: l) = one c.at_ + cnt l := by
  unfold cnt one
  by_cases h : c.at_ = true
  · rw [List.filter_cons_of_pos (by simpa using h), if_pos h]; simp; omega
  · rw [List.filter_cons_of_neg (by simpa using h), if_neg h]; simp
theorem cnt_nonneg (l : List C) : 0 ≤ cnt l ∧ cnt l ≤ l.length := by
  unfold cnt
  have := List.length_filter_le (fun c : C => c.at_) l
  omega
theorem cnt_set : ∀ (l : List C) (i : Nat) (c : C) (h : i < l.length), cnt (l.set i c) = cnt l + (one c.at_ - one l[i].at_)
  | d :: l, 0, c, _ => by rw [List.set_cons_zero, cnt_cons, cnt_cons]; simp; omega
  | d :: l, i + 1, c, h => by
    rw [List.set_cons_succ, cnt_cons, cnt_cons, cnt_set l i c (by simpa using h)]; simp; omega

theorem count_calls (c : C) (w : World) : Calls Try.prog 150 #[c.v] w fun e w' => e = .returned (.int .i64 (one c.at_)) ∧ Below w.heap.size w w' :=
  count_walk _ _ _ _ _ w _ _ rfl

theorem Blk.set6 {w : World} {b : Nat} {l : List C} {ex : List Value} (h : Blk w b (flat l ++ ex) 60) (i : Nat) (hi : i < l.length) (c : C) :
    Blk ((((((w.setCell ⟨b, i * 6, none⟩ (.int .u8 c.ch)).setCell ⟨b, i * 6 + 1, none⟩ (.bool c.at_)).setCell ⟨b, i * 6 + 2, none⟩ (.int .u8 c.fa)).setCell ⟨b, i * 6 + 3, none⟩ (.int .u8 c.hi)).setCell ⟨b, i * 6 + 4, none⟩ (.int .u8 c.co)).setCell ⟨b, i * 6 + 5, none⟩ (.int .u8 c.se)) b (flat (l.set i c) ++ ex) 60 := by
  have hl := flat_length l
  have := (((((h.set (i * 6) (.int .u8 c.ch)).set (i * 6 + 1) (.bool c.at_)).set (i * 6 + 2) (.int .u8 c.fa)).set (i * 6 + 3) (.int .u8 c.hi)).set (i * 6 + 4) (.int .u8 c.co)).set (i * 6 + 5) (.int .u8 c.se)
  rw [Nat.mul_comm i 6] at this ⊢
  rw [List.set_append_left _ _ (by omega), List.set_append_left _ _ (by simp; omega), List.set_append_left _ _ (by simp; omega), List.set_append_left _ _ (by simp; omega), List.set_append_left _ _ (by simp; omega), List.set_append_left _ _ (by simp; omega), flat_set l i c hi] at this
  exact this

theorem Kn.upd {R : List Nat} {w0 W : World} {q : Nat} {cs : List Value} {t : TypeId} {B : Known} (h : Kn R w0 ((q, cs, t) :: B) W) (hq : ∀ x ∈ B, x.1 ≠ q) (hR : q ∈ R ∨ w0.heap.size ≤ q) (j : Nat) (v : Value) :
    Kn R w0 ((q, cs.set j v, t) :: B) (W.setCell ⟨q, j, none⟩ v) :=
  ⟨h.1.setCell (p := ⟨q, j, none⟩) hR v, fun x hx => by
    rcases List.mem_cons.1 hx with rfl | hx
    · exact (h.2 _ (List.mem_cons_self ..)).set j v
    · exact (h.2 x (List.mem_cons_of_mem _ hx)).other (p := ⟨q, j, none⟩) (hq x hx) v⟩
theorem Kn.mono {R R' : List Nat} {w0 W : World} {B : Known} (h : Kn R w0 B W) (hr : ∀ x, x ∈ R → x ∈ R') : Kn R' w0 B W := ⟨h.1.mono (fun x hx => .inl (hr x hx)), h.2⟩

theorem rules_c {R : List Nat} {w0 : World} {B : Known} {p : Nat} {c : C} (m : (p, c.vs, 60) ∈ B) : (∀ W, Kn R w0 B W → W.cell? ⟨p, 0, none⟩ = some (.int .u8 c.ch)) ∧ (∀ W, Kn R w0 B W → W.cell? ⟨p, 1, none⟩ = some (.bool c.at_)) ∧ (∀ W, Kn R w0 B W → W.cell? ⟨p, 2, none⟩ = some (.int .u8 c.fa)) ∧
    (∀ W, Kn R w0 B W → W.cell? ⟨p, 3, none⟩ = some (.int .u8 c.hi)) ∧ (∀ W, Kn R w0 B W → W.cell? ⟨p, 4, none⟩ = some (.int .u8 c.co)) ∧ (∀ W, Kn R w0 B W → W.cell? ⟨p, 5, none⟩ = some (.int .u8 c.se)) :=
  ⟨fun _ h => h.cell m 0, fun _ h => h.cell m 1, fun _ h => h.cell m 2, fun _ h => h.cell m 3, fun _ h => h.cell m 4, fun _ h => h.cell m 5⟩

theorem Keep.setb6 {R : List Nat} {w W : World} {b : Nat} (h : Keep R w W) (hb : b ∈ R ∨ w.heap.size ≤ b) (j0 j1 j2 j3 j4 j5 : Nat) (v0 v1 v2 v3 v4 v5 : Value) :
    Keep R w ((((((W.setCell ⟨b, j0, none⟩ v0).setCell ⟨b, j1, none⟩ v1).setCell ⟨b, j2, none⟩ v2).setCell ⟨b, j3, none⟩ v3).setCell ⟨b, j4, none⟩ v4).setCell ⟨b, j5, none⟩ v5) :=
  (((((h.setCell (p := ⟨b, j0, none⟩) hb v0).setCell (p := ⟨b, j1, none⟩) hb v1).setCell (p := ⟨b, j2, none⟩) hb v2).setCell (p := ⟨b, j3, none⟩) hb v3).setCell (p := ⟨b, j4, none⟩) hb v4).setCell (p := ⟨b, j5, none⟩) hb v5
theorem Blk.otherb6 {W : World} {q b : Nat} {cs : List Value} {t : TypeId} (h : Blk W q cs t) (hb : q ≠ b) (j0 j1 j2 j3 j4 j5 : Nat) (v0 v1 v2 v3 v4 v5 : Value) :
    Blk ((((((W.setCell ⟨b, j0, none⟩ v0).setCell ⟨b, j1, none⟩ v1).setCell ⟨b, j2, none⟩ v2).setCell ⟨b, j3, none⟩ v3).setCell ⟨b, j4, none⟩ v4).setCell ⟨b, j5, none⟩ v5) q cs t :=
  (((((h.other (p := ⟨b, j0, none⟩) hb v0).other (p := ⟨b, j1, none⟩) hb v1).other (p := ⟨b, j2, none⟩) hb v2).other (p := ⟨b, j3, none⟩) hb v3).other (p := ⟨b, j4, none⟩) hb v4).other (p := ⟨b, j5, none⟩) hb v5

set_option maxRecDepth 100000 in
set_option maxHeartbeats 2000000 in
theorem set_attr {w : World} {p b : Nat} {s : S} (h : PSp w p b s) (ok : s.ok) (n ch fa hi co se : Int) (f : C) (hf : f = ⟨0, true, bits .and .u8 fa 61, hi, co, se⟩) :
    Calls Try.prog 59 #[.pointer (some ⟨p, 0, none⟩), .int .i64 n, .agg #[.int .u8 ch, .bool true, .int .u8 fa, .int .u8 hi, .int .u8 co, .int .u8 se]] w fun e w' => e = .returned (.tuple #[]) ∧ PSp w' p b { s with l := s.l.set (s.ix n) f } ∧ Keep [p, b] w w' := by
  have hne := h.ne
  obtain ⟨cap, ex, hcap, h1, h2⟩ := h
  have plt := h1.lt
  have blt := h2.lt
  have k0 : Kn [p, b] w [(p, pb s b cap, 155), (b, flat s.l ++ ex, 60)] w := by
    refine ⟨Keep.refl _ _, ?_⟩
    intro x hx
    rcases List.mem_cons.1 hx with rfl | hx
    · exact h1
    · rcases List.mem_cons.1 hx with rfl | hx
      · exact h2
      · cases hx
  obtain ⟨hix, hlt, hN, hN1⟩ := ok.ix n
  generalize hi : s.ix n = i at *
  clear hi
  have kc : Kn [p, b] w [(w.heap.size, f.vs, 60), (p, pb s b cap, 155), (b, flat s.l ++ ex, 60)] (w.alloc (.cells #[.int .u8 0, .bool true, .int .u8 (bits .and .u8 fa 61), .int .u8 hi, .int .u8 co, .int .u8 se] 60)) := by rw [hf]; exact k0.new _ 60
  obtain ⟨B, hB⟩ : ∃ B, B = [(w.heap.size, f.vs, 60), (p, pb s b cap, 155), (b, flat s.l ++ ex, 60)] := ⟨_, rfl⟩
  have m0 : (w.heap.size, f.vs, 60) ∈ B := by rw [hB]; exact List.mem_cons_self ..
  have m1 : (p, pb s b cap, 155) ∈ B := by rw [hB]; exact List.mem_cons_of_mem _ (List.mem_cons_self ..)
  have m2 : (b, flat s.l ++ ex, 60) ∈ B := by rw [hB]; exact List.mem_cons_of_mem _ (List.mem_cons_of_mem _ (List.mem_cons_self ..))
  rw [← hB] at kc
  have KC := Aside0.mk kc
  obtain ⟨r0, r1, r2, r3, r4, r5, r6⟩ := rules_p (R := [p, b]) (w0 := w) m1
  obtain ⟨x0, x1, x2, x3, x4, x5⟩ := rules_b (R := [p, b]) (w0 := w) m2 hlt
  obtain ⟨y0, y1, y2, y3, y4, y5⟩ := rules_c (R := [p, b]) (w0 := w) m0
  have rf := rules_f (R := [p, b]) (w0 := w) m1
  have s2 := h1.cell 2
  have s3 := h1.cell 3
  simp at s2 s3
  have i1 : (0 : Int) ≤ (i : Int) := by omega
  have i2 : (i : Int) < (s.l.length : Int) := by omega
  have hcn := cnt_nonneg s.l
  have e1 : (0 : Int) ≤ one f.at_ ∧ one f.at_ ≤ 1 := by unfold one; split <;> omega
  have e2 : (0 : Int) ≤ one s.l[i].at_ ∧ one s.l[i].at_ ≤ 1 := by unfold one; split <;> omega
  have hcs := cnt_set s.l i f hlt
  have w1 : IntKind.i64.wrap (one f.at_ - one s.l[i].at_) = one f.at_ - one s.l[i].at_ := by rw [IntKind.wrap_i64]; omega
  have w2 : IntKind.i64.wrap (cnt s.l + (one f.at_ - one s.l[i].at_)) = cnt (s.l.set i f) := by rw [hcs, IntKind.wrap_i64]; omega
  have W1 := Aside0.mk w1
  have W2 := Aside0.mk w2
  have HB := Aside0.mk hB
  clear kc hcn e1 e2 hcs w1 w2 hB m0 k0
  have F := Aside0.mk hf
  clear hf
  go_enter Try.func59, Try.ntmps59
  go_wp2_with (go_at_call 32; (with_reducible refine (c_wrap _ _ _ _).mono ?_); rintro e w1 ⟨rfl, hb1⟩; have k1 := KC.out.call hb1)
  clear hb1 KC s2 s3
  have w1 := W1.out
  have w2 := W2.out
  clear W1 W2
  refine wp_quiet_tail (K := Kn [p, b] w B) 18 (by kernel_rfl) (by kernel_rfl) k1.drew ?_
  simp only [List.take_succ_cons, List.take_zero, List.drop_succ_cons, List.drop_zero]
  repeat (first
    | go_big_quiet_skip
    | (go_big_quiet_want; first
        | (go_big_quiet_op; first
            | go_big_quiet_on
            | (go_big_quiet_call ((intro hW; first
                | exact Calls.mono (c_wrap _ _ _ _) (fun e W' h => ⟨h.1, hW.call h.2⟩)
                | exact Calls.mono (count_calls f _) (fun e W' h => ⟨h.1, hW.call h.2⟩)
                | exact Calls.mono (count_calls s.l[i] _) (fun e W' h => ⟨h.1, hW.call h.2⟩)))))
        | (apply quiet_of
           · (intro W hW
              go_simp
              with_reducible rfl)
           simp only [Act.put, List.setIfInBounds_toArray, List.set_cons_zero, List.set_cons_succ]
           go_big_quiet_on)))
  refine wpQuiet_nil ?_
  intro W2 k2
  clear k1 w1 w2
  go_wp2
  rw [HB.out] at k2
  have q0 : Blk W2 w.heap.size f.vs 60 := k2.blk (List.mem_cons_self ..)
  have q1 : Blk W2 p (pb s b cap) 155 := k2.blk (List.mem_cons_of_mem _ (List.mem_cons_self ..))
  have q2 : Blk W2 b (flat s.l ++ ex) 60 := k2.blk (List.mem_cons_of_mem _ (List.mem_cons_of_mem _ (List.mem_cons_self ..)))
  have k3 : Kn [p, b] w [(w.heap.size, f.vs, 60), (p, pb { s with l := s.l.set i f } b cap, 155), (b, flat s.l ++ ex, 60)] (W2.setCell ⟨p, 6, none⟩ (.int .i64 (cnt (s.l.set i f)))) := by
    refine ⟨k2.1.setCell (p := ⟨p, 6, none⟩) (.inl (List.mem_cons_self ..)) _, ?_⟩
    intro x hx
    rcases List.mem_cons.1 hx with rfl | hx
    · exact q0.other (p := ⟨p, 6, none⟩) (by show w.heap.size ≠ p; omega) _
    · rcases List.mem_cons.1 hx with rfl | hx
      · have e : pb { s with l := s.l.set i f } b cap = (pb s b cap).set 6 (.int .i64 (cnt (s.l.set i f))) := by simp [pb]
        show Blk _ p (pb { s with l := s.l.set i f } b cap) 155
        rw [e]; exact q1.set 6 _
      · rcases List.mem_cons.1 hx with rfl | hx
        · exact q2.other (p := ⟨p, 6, none⟩) hne.symm _
        · cases hx
  clear q0 q1 q2 k2 m1 m2
  obtain ⟨B2, hB2⟩ : ∃ B2, B2 = [(w.heap.size, f.vs, 60), (p, pb { s with l := s.l.set i f } b cap, 155), (b, flat s.l ++ ex, 60)] := ⟨_, rfl⟩
  have m0 : (w.heap.size, f.vs, 60) ∈ B2 := by rw [hB2]; exact List.mem_cons_self ..
  have m1 : (p, pb { s with l := s.l.set i f } b cap, 155) ∈ B2 := by rw [hB2]; exact List.mem_cons_of_mem _ (List.mem_cons_self ..)
  have m2 : (b, flat s.l ++ ex, 60) ∈ B2 := by rw [hB2]; exact List.mem_cons_of_mem _ (List.mem_cons_of_mem _ (List.mem_cons_self ..))
  rw [← hB2] at k3
  clear hB2 HB
  obtain ⟨_, _, _, _, r4, _, _⟩ := rules_p (R := [p, b]) (w0 := w) m1
  obtain ⟨x0, x1, x2, x3, x4, x5⟩ := rules_b (R := [p, b]) (w0 := w) m2 hlt
  obtain ⟨y0, y1, y2, y3, y4, y5⟩ := rules_c (R := [p, b]) (w0 := w) m0
  have bf := rules_f (R := [p, b]) (w0 := w) m2
  simp only [List.length_set] at r4
  refine wp_quiet_tail (K := Kn [p, b] w B2) 7 (by kernel_rfl) (by kernel_rfl) k3.drew ?_
  simp only [List.take_succ_cons, List.take_zero, List.drop_succ_cons, List.drop_zero]
  repeat (first
    | go_big_quiet_skip
    | (go_big_quiet_want; first
        | (go_big_quiet_op; first
            | go_big_quiet_on)
        | (apply quiet_of
           · (intro W hW
              go_simp
              with_reducible rfl)
           simp only [Act.put, List.setIfInBounds_toArray, List.set_cons_zero, List.set_cons_succ]
           go_big_quiet_on)))
  refine wpQuiet_nil ?_
  intro W4 k4
  clear k3
  go_wp2
  go_end0
  refine ⟨rfl, ⟨cap, ex, by rw [List.length_set]; exact hcap, ?_, ?_⟩, ?_⟩
  · exact (k4.blk m1).otherb6 hne _ _ _ _ _ _ _ _ _ _ _ _
  · exact (k4.blk m2).set6 i hlt f
  · exact k4.1.setb6 (.inl (List.mem_cons_of_mem _ (List.mem_cons_self ..))) _ _ _ _ _ _ _ _ _ _ _ _

set_option maxRecDepth 100000 in
set_option maxHeartbeats 2000000 in
theorem set_char {w : World} {p b : Nat} {s : S} (h : PSp w p b s) (ok : s.ok) (n ch fa hi co se : Int) (f : C) (hf : f = ⟨ch, false, 0, hi, co, se⟩) :
    Calls Try.prog 59 #[.pointer (some ⟨p, 0, none⟩), .int .i64 n, .agg #[.int .u8 ch, .bool false, .int .u8 fa, .int .u8 hi, .int .u8 co, .int .u8 se]] w fun e w' => e = .returned (.tuple #[]) ∧ PSp w' p b { s with l := s.l.set (s.ix n) f } ∧ Keep [p, b] w w' := by
  have hne := h.ne
  obtain ⟨cap, ex, hcap, h1, h2⟩ := h
  have plt := h1.lt
  have blt := h2.lt
  have k0 : Kn [p, b] w [(p, pb s b cap, 155), (b, flat s.l ++ ex, 60)] w := by
    refine ⟨Keep.refl _ _, ?_⟩
    intro x hx
    rcases List.mem_cons.1 hx with rfl | hx
    · exact h1
    · rcases List.mem_cons.1 hx with rfl | hx
      · exact h2
      · cases hx
  obtain ⟨hix, hlt, hN, hN1⟩ := ok.ix n
  generalize hi : s.ix n = i at *
  clear hi
  have kc : Kn [p, b] w [(w.heap.size, f.vs, 60), (p, pb s b cap, 155), (b, flat s.l ++ ex, 60)] (w.alloc (.cells #[.int .u8 ch, .bool false, .int .u8 0, .int .u8 hi, .int .u8 co, .int .u8 se] 60)) := by rw [hf]; exact k0.new _ 60
  obtain ⟨B, hB⟩ : ∃ B, B = [(w.heap.size, f.vs, 60), (p, pb s b cap, 155), (b, flat s.l ++ ex, 60)] := ⟨_, rfl⟩
  have m0 : (w.heap.size, f.vs, 60) ∈ B := by rw [hB]; exact List.mem_cons_self ..
  have m1 : (p, pb s b cap, 155) ∈ B := by rw [hB]; exact List.mem_cons_of_mem _ (List.mem_cons_self ..)
  have m2 : (b, flat s.l ++ ex, 60) ∈ B := by rw [hB]; exact List.mem_cons_of_mem _ (List.mem_cons_of_mem _ (List.mem_cons_self ..))
  rw [← hB] at kc
  have KC := Aside0.mk kc
  obtain ⟨r0, r1, r2, r3, r4, r5, r6⟩ := rules_p (R := [p, b]) (w0 := w) m1
  obtain ⟨x0, x1, x2, x3, x4, x5⟩ := rules_b (R := [p, b]) (w0 := w) m2 hlt
  obtain ⟨y0, y1, y2, y3, y4, y5⟩ := rules_c (R := [p, b]) (w0 := w) m0
  have rf := rules_f (R := [p, b]) (w0 := w) m1
  have s2 := h1.cell 2
  have s3 := h1.cell 3
  simp at s2 s3
  have i1 : (0 : Int) ≤ (i : Int) := by omega
  have i2 : (i : Int) < (s.l.length : Int) := by omega
  have hcn := cnt_nonneg s.l
  have e1 : (0 : Int) ≤ one f.at_ ∧ one f.at_ ≤ 1 := by unfold one; split <;> omega
  have e2 : (0 : Int) ≤ one s.l[i].at_ ∧ one s.l[i].at_ ≤ 1 := by unfold one; split <;> omega
  have hcs := cnt_set s.l i f hlt
  have w1 : IntKind.i64.wrap (one f.at_ - one s.l[i].at_) = one f.at_ - one s.l[i].at_ := by rw [IntKind.wrap_i64]; omega
  have w2 : IntKind.i64.wrap (cnt s.l + (one f.at_ - one s.l[i].at_)) = cnt (s.l.set i f) := by rw [hcs, IntKind.wrap_i64]; omega
  have W1 := Aside0.mk w1
  have W2 := Aside0.mk w2
  have HB := Aside0.mk hB
  clear kc hcn e1 e2 hcs w1 w2 hB m0 k0
  have F := Aside0.mk hf
  clear hf
  go_enter Try.func59, Try.ntmps59
  go_wp2_with (go_at_call 32; (with_reducible refine (c_wrap _ _ _ _).mono ?_); rintro e w1 ⟨rfl, hb1⟩; have k1 := KC.out.call hb1)
  clear hb1 KC s2 s3
  have w1 := W1.out
  have w2 := W2.out
  clear W1 W2
  refine wp_quiet_tail (K := Kn [p, b] w B) 18 (by kernel_rfl) (by kernel_rfl) k1.drew ?_
  simp only [List.take_succ_cons, List.take_zero, List.drop_succ_cons, List.drop_zero]
  repeat (first
    | go_big_quiet_skip
    | (go_big_quiet_want; first
        | (go_big_quiet_op; first
            | go_big_quiet_on
            | (go_big_quiet_call ((intro hW; first
                | exact Calls.mono (c_wrap _ _ _ _) (fun e W' h => ⟨h.1, hW.call h.2⟩)
                | exact Calls.mono (count_calls f _) (fun e W' h => ⟨h.1, hW.call h.2⟩)
                | exact Calls.mono (count_calls s.l[i] _) (fun e W' h => ⟨h.1, hW.call h.2⟩)))))
        | (apply quiet_of
           · (intro W hW
              go_simp
              with_reducible rfl)
           simp only [Act.put, List.setIfInBounds_toArray, List.set_cons_zero, List.set_cons_succ]
           go_big_quiet_on)))
  refine wpQuiet_nil ?_
  intro W2 k2
  clear k1 w1 w2
  go_wp2
  rw [HB.out] at k2
  have q0 : Blk W2 w.heap.size f.vs 60 := k2.blk (List.mem_cons_self ..)
  have q1 : Blk W2 p (pb s b cap) 155 := k2.blk (List.mem_cons_of_mem _ (List.mem_cons_self ..))
  have q2 : Blk W2 b (flat s.l ++ ex) 60 := k2.blk (List.mem_cons_of_mem _ (List.mem_cons_of_mem _ (List.mem_cons_self ..)))
  have k3 : Kn [p, b] w [(w.heap.size, f.vs, 60), (p, pb { s with l := s.l.set i f } b cap, 155), (b, flat s.l ++ ex, 60)] (W2.setCell ⟨p, 6, none⟩ (.int .i64 (cnt (s.l.set i f)))) := by
    refine ⟨k2.1.setCell (p := ⟨p, 6, none⟩) (.inl (List.mem_cons_self ..)) _, ?_⟩
    intro x hx
    rcases List.mem_cons.1 hx with rfl | hx
    · exact q0.other (p := ⟨p, 6, none⟩) (by show w.heap.size ≠ p; omega) _
    · rcases List.mem_cons.1 hx with rfl | hx
      · have e : pb { s with l := s.l.set i f } b cap = (pb s b cap).set 6 (.int .i64 (cnt (s.l.set i f))) := by simp [pb]
        show Blk _ p (pb { s with l := s.l.set i f } b cap) 155
        rw [e]; exact q1.set 6 _
      · rcases List.mem_cons.1 hx with rfl | hx
        · exact q2.other (p := ⟨p, 6, none⟩) hne.symm _
        · cases hx
  clear q0 q1 q2 k2 m1 m2
  obtain ⟨B2, hB2⟩ : ∃ B2, B2 = [(w.heap.size, f.vs, 60), (p, pb { s with l := s.l.set i f } b cap, 155), (b, flat s.l ++ ex, 60)] := ⟨_, rfl⟩
  have m0 : (w.heap.size, f.vs, 60) ∈ B2 := by rw [hB2]; exact List.mem_cons_self ..
  have m1 : (p, pb { s with l := s.l.set i f } b cap, 155) ∈ B2 := by rw [hB2]; exact List.mem_cons_of_mem _ (List.mem_cons_self ..)
  have m2 : (b, flat s.l ++ ex, 60) ∈ B2 := by rw [hB2]; exact List.mem_cons_of_mem _ (List.mem_cons_of_mem _ (List.mem_cons_self ..))
  rw [← hB2] at k3
  clear hB2 HB
  obtain ⟨_, _, _, _, r4, _, _⟩ := rules_p (R := [p, b]) (w0 := w) m1
  obtain ⟨x0, x1, x2, x3, x4, x5⟩ := rules_b (R := [p, b]) (w0 := w) m2 hlt
  obtain ⟨y0, y1, y2, y3, y4, y5⟩ := rules_c (R := [p, b]) (w0 := w) m0
  have bf := rules_f (R := [p, b]) (w0 := w) m2
  simp only [List.length_set] at r4
  refine wp_quiet_tail (K := Kn [p, b] w B2) 7 (by kernel_rfl) (by kernel_rfl) k3.drew ?_
  simp only [List.take_succ_cons, List.take_zero, List.drop_succ_cons, List.drop_zero]
  repeat (first
    | go_big_quiet_skip
    | (go_big_quiet_want; first
        | (go_big_quiet_op; first
            | go_big_quiet_on)
        | (apply quiet_of
           · (intro W hW
              go_simp
              with_reducible rfl)
           simp only [Act.put, List.setIfInBounds_toArray, List.set_cons_zero, List.set_cons_succ]
           go_big_quiet_on)))
  refine wpQuiet_nil ?_
  intro W4 k4
  clear k3
  go_wp2
  go_end0
  refine ⟨rfl, ⟨cap, ex, by rw [List.length_set]; exact hcap, ?_, ?_⟩, ?_⟩
  · exact (k4.blk m1).otherb6 hne _ _ _ _ _ _ _ _ _ _ _ _
  · exact (k4.blk m2).set6 i hlt f
  · exact k4.1.setb6 (.inl (List.mem_cons_of_mem _ (List.mem_cons_self ..))) _ _ _ _ _ _ _ _ _ _ _ _


end Go.Proofs.Ytangandfgbnomaa.V

namespace Go.Proofs.Ytangandfgbnomaa.V
open Go.RowKit
set_option linter.unusedVariables false
set_option linter.unusedSimpArgs false

theorem set_calls {w : World} {p b : Nat} {s : S} (h : PSp w p b s) (ok : s.ok) (n : Int) (c : C) :
    Calls Try.prog 59 #[.pointer (some ⟨p, 0, none⟩), .int .i64 n, c.v] w fun e w' => e = .returned (.tuple #[]) ∧ PSp w' p b (s.set n c) ∧ Keep [p, b] w w' := by
  obtain ⟨ch, at_, fa, hi, co, se⟩ := c
  cases at_ with
  | true => exact set_attr h ok n ch fa hi co se _ rfl
  | false => exact set_char h ok n ch fa hi co se _ rfl

set_option maxRecDepth 100000 in
set_option maxHeartbeats 1000000 in
theorem put_walk {w : World} {p b : Nat} {s : S} (h : PSp w p b s) (ok : s.ok) (n x : Int) (a : Bool) (ha : (s.get n).at_ = a) :
    Calls Try.prog 62 #[.pointer (some ⟨p, 0, none⟩), .int .i64 n, .int .u8 x] w fun e w' => e = .returned (.tuple #[]) ∧ PSp w' p b (s.put n x) ∧ Keep [b] w w' := by
  have hne := h.ne
  have hs : s.put n x = if a = true then s else { s with l := s.l.set (s.ix n) { s.get n with ch := x } } := by unfold S.put; rw [ha]
  have hp := h
  obtain ⟨cap, ex, B, m1, m2, hcap, k0, plt, blt⟩ := h.start
  obtain ⟨hix, hlt, hN, hN1⟩ := ok.ix n
  have hget : s.get n = s.l.getD (s.ix n) C.zero := rfl
  generalize hi : s.ix n = i at *
  have eg : s.l.getD i C.zero = s.l[i] := by rw [List.getD_eq_getElem?_getD, List.getElem?_eq_getElem hlt]; rfl
  rw [hget, eg] at ha hs
  clear hget hi h eg
  obtain ⟨_, _, r2, r3, r4, _, _⟩ := rules_p (R := []) (w0 := w) m1
  obtain ⟨x0, x1, x2, x3, x4, x5⟩ := rules_b (R := []) (w0 := w) m2 hlt
  have bf := rules_f (R := []) (w0 := w) m2
  have i1 : (0 : Int) ≤ (i : Int) := by omega
  have i2 : (i : Int) < (s.l.length : Int) := by omega
  have HS := Aside0.mk hs
  clear hs
  go_enter Try.func62, Try.ntmps62
  go_wp2
  refine wp_quiet_all (K := Kn [] w B) (by kernel_rfl) (by kernel_rfl) k0.drew ?_
  repeat (first
    | go_big_quiet_skip
    | (go_big_quiet_want; first
        | (go_big_quiet_op; first
            | go_big_quiet_on
            | (go_big_quiet_call ((intro hW; first
                | exact Calls.mono (c_wrap _ _ _ _) (fun e W' h => ⟨h.1, hW.call h.2⟩)))))
        | (apply quiet_of
           · (intro W hW
              go_simp
              with_reducible rfl)
           simp only [Act.put, List.setIfInBounds_toArray, List.set_cons_zero, List.set_cons_succ]
           go_big_quiet_on)))
  refine wpQuiet_nil ?_
  intro W hW
  clear k0
  cases a with
  | true =>
    go_wp2
    go_end0
    refine ⟨rfl, ?_, ?_⟩
    · rw [HS.out]; simp only [if_true]; exact hp.keep hW.1 (by simp) (by simp)
    · exact hW.1.mono (by simp)
  | false =>
    go_wp2
    go_end0
    refine ⟨rfl, ?_, ?_⟩
    · rw [HS.out]; simp only [Bool.false_eq_true, if_false]
      obtain ⟨cap', ex', h0, h1, h2⟩ := hp.keep hW.1 (by simp) (by simp)
      have e : cnt (s.l.set i { s.l[i] with ch := x }) = cnt s.l := by rw [cnt_set _ _ _ hlt]; simp
      refine ⟨cap', ex', by rw [List.length_set]; exact h0, ?_, ?_⟩
      · show Blk _ p [_, _, _, _, .slice _ (s.l.set i _).length cap', _, .int .i64 (cnt (s.l.set i _))] 155
        rw [List.length_set, e]
        exact h1.other (p := ⟨b, i * 6, none⟩) hne _
      · have := h2.set (i * 6) (.int .u8 x)
        have hl := flat_length s.l
        rw [List.set_append_left _ _ (by omega), Nat.mul_comm i 6, flat_set_ch s.l i hlt x] at this
        rw [Nat.mul_comm i 6]; exact this
    · exact (hW.1.mono (by simp)).setCell (p := ⟨b, i * 6, none⟩) (.inl (List.mem_cons_self ..)) _

theorem put_calls {w : World} {p b : Nat} {s : S} (h : PSp w p b s) (ok : s.ok) (n x : Int) :
    Calls Try.prog 62 #[.pointer (some ⟨p, 0, none⟩), .int .i64 n, .int .u8 x] w fun e w' => e = .returned (.tuple #[]) ∧ PSp w' p b (s.put n x) ∧ Keep [b] w w' := put_walk h ok n x _ rfl

end Go.Proofs.Ytangandfgbnomaa.V

namespace Go.Proofs.Ytangandfgbnomaa.V
open Go.RowKit
set_option linter.unusedVariables false
set_option linter.unusedSimpArgs false

theorem info60 : (Try.prog.info? 60).map (fun i => (i.zero, i.size, i.bytes)) = some (some (.agg #[.int .u8 0, .bool false, .int .u8 0, .int .u8 0, .int .u8 0, .int .u8 0]), 6, 6) := by kernel_rfl

theorem flat_zeros (n : Nat) : (madeCells #[.int .u8 0, .bool false, .int .u8 0, .int .u8 0, .int .u8 0, .int .u8 0] (n * 6)).toList = flat (List.replicate n C.zero) := by
  have hl := flat_length (List.replicate n C.zero)
  rw [List.length_replicate] at hl
  apply List.ext_getElem?
  intro k
  by_cases hk : k < n * 6
  · have hi : k / 6 < (List.replicate n C.zero).length := by rw [List.length_replicate]; omega
    have h1 := flat_get (List.replicate n C.zero) (k / 6) hi (k % 6) (by omega)
    have e : 6 * (k / 6) + k % 6 = k := by omega
    rw [e] at h1
    rw [h1]
    have h6 : k % 6 < 6 := by omega
    simp only [madeCells, Array.toList_map, Array.toList_range, List.getElem?_map, List.getElem_replicate]
    rw [List.getElem?_range hk]
    simp only [Option.map_some]
    generalize k % 6 = m at h6
    have hm : m = 0 ∨ m = 1 ∨ m = 2 ∨ m = 3 ∨ m = 4 ∨ m = 5 := by omega
    rcases hm with rfl | rfl | rfl | rfl | rfl | rfl <;> simp [C.zero]
  · rw [List.getElem?_eq_none (by rw [Array.length_toList, size_madeCells]; omega), List.getElem?_eq_none (by omega)]

theorem blk_made {w : World} {base g n : Nat} (h : w.ownsRow base 60 6 (.slice (some ⟨g, 0, none⟩) n n) n (madeCells #[.int .u8 0, .bool false, .int .u8 0, .int .u8 0, .int .u8 0, .int .u8 0] (n * 6)).toList) : Blk w g (flat (List.replicate n C.zero)) 60 := by
  rcases h.2 with ⟨e, _⟩ | ⟨g', cap, cur, e, _, hh, _, _, hs, ht⟩
  · cases e
  · injection e with e1 _ e3
    injection e1 with e1
    injection e1 with e1
    subst e1 e3
    rw [flat_zeros] at ht
    unfold Blk
    rw [hh]
    have : cur.toList = flat (List.replicate n C.zero) := by
      rw [← ht, List.take_of_length_le (by rw [Array.length_toList, hs]; exact Nat.le_refl _)]
    rw [← this]

/-- A model's size. -/
def msize (m : Int) : Int × Int := if m = 2 then (24, 80) else if m = 3 then (32, 80) else if m = 4 then (43, 80) else (27, 132)
/-- A space as at first. -/
def S.clr (m : Int) (alt : Bool) : S :=
  let z := msize (if alt = true then m else 2)
  { model := m, alt := alt, r := z.1, c := z.2, l := List.replicate (z.1 * z.2).toNat C.zero, cur := 0 }

theorem model_f (m : Int) (h : 2 ≤ m ∧ m ≤ 5) : addr_Model.f m = some ((msize m).1, (msize m).2, 0) ∧ vitrineref04_Model.f m = some ((msize m).1, (msize m).2, true) ∧ vld (msize m).1 (msize m).2 = true := by
  have : m = 2 ∨ m = 3 ∨ m = 4 ∨ m = 5 := by omega
  rcases this with rfl | rfl | rfl | rfl <;> decide +kernel

theorem cnt_zeros (n : Nat) : cnt (List.replicate n C.zero) = 0 := by
  induction n with
  | zero => rfl
  | succ n ih => rw [List.replicate_succ, cnt_cons, ih]; rfl

theorem S.clr_ok (m : Int) (alt : Bool) (h : 2 ≤ m ∧ m ≤ 5) : (S.clr m alt).ok := by
  have h' : 2 ≤ (if alt = true then m else 2) ∧ (if alt = true then m else 2) ≤ 5 := by split <;> omega
  obtain ⟨_, _, hv⟩ := model_f _ h'
  have hp := vld_pos hv
  refine ⟨hv, ?_, by show (0 : Int) ≤ 0; omega, by show (0 : Int) < _; simp only [S.clr]; omega, ?_⟩
  · show ((List.replicate _ C.zero).length : Int) = _
    rw [List.length_replicate]; simp only [S.clr]; omega
  · intro c hc
    have := List.eq_of_mem_replicate hc
    subst this
    exact ⟨by decide, by decide, by decide, by decide, by decide, by decide⟩

set_option maxRecDepth 100000 in
set_option maxHeartbeats 2000000 in
theorem clear_walk {w : World} {p : Nat} (m ar ac au at_ R C' : Int) (al : Bool) (sv : Option Addr) (sl sc : Nat) (alt : Bool) (h : Blk w p [.int .i64 m, .bool al, .int .i64 ar, .int .i64 ac, .slice sv sl sc, .int .i64 au, .int .i64 at_] 155)
    (N : Nat) (hm : addr_Model.f (if alt = true then m else 2) = some (R, C', 0)) (hv : vld R C' = true) (hN : cel R C' = (N : Int)) :
    Calls Try.prog 99 #[.pointer (some ⟨p, 0, none⟩), .bool alt] w fun e w' => e = .returned (.tuple #[]) ∧ ∃ b, w.heap.size ≤ b ∧ PSp w' p b { model := m, alt := alt, r := R, c := C', l := List.replicate N C.zero, cur := 0 } ∧ Keep [p] w w' := by
  have plt := h.lt
  have c0 : ∀ W, Blk W p [.int .i64 m, .bool al, .int .i64 ar, .int .i64 ac, .slice sv sl sc, .int .i64 au, .int .i64 at_] 155 → W.cell? ⟨p, 0, none⟩ = some (.int .i64 m) := fun W h => h.cell 0
  obtain ⟨i0, hi, hz0, hz1, hz2⟩ := info_parts info60
  have hNb : (N : Int) ≤ 3564 ∧ 0 ≤ (N : Int) := by
    have hp := vld_pos hv
    have e : cel R C' = R * C' := by unfold cel; rw [if_pos hv]
    omega
  have f0 := h.cell 0
  have f1 := h.cell 1
  have f2 := h.cell 2
  have f3 := h.cell 3
  have f4 := h.cell 4
  have f5 := h.cell 5
  have f6 := h.cell 6
  have ff := h.frozen
  simp at f0 f1 f2 f3 f4 f5 f6
  have HM := Aside0.mk hm
  have HN := Aside0.mk hN
  clear hm c0 hN
  cases alt
  · skip
    have hm := HM.out
    simp only [if_true, Bool.false_eq_true, if_false] at hm
    have HM2 := Aside0.mk hm
    clear hm
    go_enter Try.func99, Try.ntmps99
    go_wp2_with (first
      | (go_at_call 28; (with_reducible refine (addr_Model.calls _ _ _ _ _ HM2.out).mono ?_); rintro e w1 ⟨rfl, hb1⟩
         go_loud (have H1 : Blk w1 p [.int .i64 m, .bool false, .int .i64 ar, .int .i64 ac, .slice sv sl sc, .int .i64 au, .int .i64 at_] 155 := (h.set 1 _).call hb1)
         go_loud (have K1 : Keep [p] w w1 := ((Keep.refl [p] w).setCell (p := ⟨p, 1, none⟩) (.inl (List.mem_cons_self ..)) _).call hb1)
         have p1 := H1.lt
         have j2 := H1.cell 2
         have j3 := H1.cell 3
         have jf := H1.frozen
         go_loud (simp at j2 j3))
      | (go_at_call 33; (with_reducible refine (c_cells _ _ _).mono ?_); rintro e w2 ⟨rfl, hb2⟩
         have H2 : Blk w2 p [.int .i64 m, .bool false, .int .i64 R, .int .i64 C', .slice sv sl sc, .int .i64 au, .int .i64 at_] 155 := ((H1.set 2 _).set 3 _).call hb2
         have K2 : Keep [p] w w2 := ((K1.setCell (p := ⟨p, 2, none⟩) (.inl (List.mem_cons_self ..)) _).setCell (p := ⟨p, 3, none⟩) (.inl (List.mem_cons_self ..)) _).call hb2
         have s2 := H2.lt)
      | (at_make; go_loud (refine wpList_make_full _ rfl _ _ 96 rfl w2.heap.size 60 i0 _ 6 Try.underlying96 hi hz0 hz1 .i64 .i64 _ _ N (by go_simp) (by go_simp) HN.out HN.out (by rw [hz2]; omega) (by unfold maxLen; omega) (Nat.le_refl _) ?_)
         intro w3 hown hgrow
         go_loud (have Kg : Keep [] w2 w3 := by obtain ⟨g1, g2, g3, g4, g5⟩ := hgrow; exact ⟨g1, g2, g3, g4, fun k hk _ => g5 k hk (by simp)⟩)
         go_loud (have K3 : Keep [p] w w3 := K2.trans (R' := []) Kg (by simp))
         go_loud (have B3 := blk_made hown)
         go_loud (have H3 : Blk w3 p [.int .i64 m, .bool false, .int .i64 R, .int .i64 C', .slice sv sl sc, .int .i64 au, .int .i64 at_] 155 := H2.keep (R := []) Kg (by simp))
         have hlt3 := H3.lt
         have l4 := H3.cell 4
         have l5 := H3.cell 5
         have l6 := H3.cell 6
         have lf := H3.frozen
         go_loud (simp at l4 l5 l6)))
    go_end0
    refine ⟨rfl, w2.heap.size, ?_, ?_, ?_⟩
    · exact K2.size
    · refine ⟨N, [], by simp, ?_, ?_⟩
      · have := ((H3.set 4 (.slice (some ⟨w2.heap.size, 0, none⟩) N N)).set 5 (.int .i64 0)).set 6 (.int .i64 0)
        simp only [List.length_replicate, cnt_zeros]
        exact this
      · simp only [List.append_nil]
        exact ((B3.other (p := ⟨p, 4, none⟩) (by have := s2; simp only; omega) _).other (p := ⟨p, 5, none⟩) (by have := s2; simp only; omega) _).other (p := ⟨p, 6, none⟩) (by have := s2; simp only; omega) _
    · exact ((K3.setCell (p := ⟨p, 4, none⟩) (.inl (List.mem_cons_self ..)) _).setCell (p := ⟨p, 5, none⟩) (.inl (List.mem_cons_self ..)) _).setCell (p := ⟨p, 6, none⟩) (.inl (List.mem_cons_self ..)) _
  · skip
    have hm := HM.out
    simp only [if_true, Bool.false_eq_true, if_false] at hm
    have HM2 := Aside0.mk hm
    clear hm
    go_enter Try.func99, Try.ntmps99
    go_wp2_with (first
      | (go_at_call 28; (with_reducible refine (addr_Model.calls _ _ _ _ _ HM2.out).mono ?_); rintro e w1 ⟨rfl, hb1⟩
         go_loud (have H1 : Blk w1 p [.int .i64 m, .bool true, .int .i64 ar, .int .i64 ac, .slice sv sl sc, .int .i64 au, .int .i64 at_] 155 := (h.set 1 _).call hb1)
         go_loud (have K1 : Keep [p] w w1 := ((Keep.refl [p] w).setCell (p := ⟨p, 1, none⟩) (.inl (List.mem_cons_self ..)) _).call hb1)
         have p1 := H1.lt
         have j2 := H1.cell 2
         have j3 := H1.cell 3
         have jf := H1.frozen
         go_loud (simp at j2 j3))
      | (go_at_call 33; (with_reducible refine (c_cells _ _ _).mono ?_); rintro e w2 ⟨rfl, hb2⟩
         have H2 : Blk w2 p [.int .i64 m, .bool true, .int .i64 R, .int .i64 C', .slice sv sl sc, .int .i64 au, .int .i64 at_] 155 := ((H1.set 2 _).set 3 _).call hb2
         have K2 : Keep [p] w w2 := ((K1.setCell (p := ⟨p, 2, none⟩) (.inl (List.mem_cons_self ..)) _).setCell (p := ⟨p, 3, none⟩) (.inl (List.mem_cons_self ..)) _).call hb2
         have s2 := H2.lt)
      | (at_make; go_loud (refine wpList_make_full _ rfl _ _ 96 rfl w2.heap.size 60 i0 _ 6 Try.underlying96 hi hz0 hz1 .i64 .i64 _ _ N (by go_simp) (by go_simp) HN.out HN.out (by rw [hz2]; omega) (by unfold maxLen; omega) (Nat.le_refl _) ?_)
         intro w3 hown hgrow
         go_loud (have Kg : Keep [] w2 w3 := by obtain ⟨g1, g2, g3, g4, g5⟩ := hgrow; exact ⟨g1, g2, g3, g4, fun k hk _ => g5 k hk (by simp)⟩)
         go_loud (have K3 : Keep [p] w w3 := K2.trans (R' := []) Kg (by simp))
         go_loud (have B3 := blk_made hown)
         go_loud (have H3 : Blk w3 p [.int .i64 m, .bool true, .int .i64 R, .int .i64 C', .slice sv sl sc, .int .i64 au, .int .i64 at_] 155 := H2.keep (R := []) Kg (by simp))
         have hlt3 := H3.lt
         have l4 := H3.cell 4
         have l5 := H3.cell 5
         have l6 := H3.cell 6
         have lf := H3.frozen
         go_loud (simp at l4 l5 l6)))
    go_end0
    refine ⟨rfl, w2.heap.size, ?_, ?_, ?_⟩
    · exact K2.size
    · refine ⟨N, [], by simp, ?_, ?_⟩
      · have := ((H3.set 4 (.slice (some ⟨w2.heap.size, 0, none⟩) N N)).set 5 (.int .i64 0)).set 6 (.int .i64 0)
        simp only [List.length_replicate, cnt_zeros]
        exact this
      · simp only [List.append_nil]
        exact ((B3.other (p := ⟨p, 4, none⟩) (by have := s2; simp only; omega) _).other (p := ⟨p, 5, none⟩) (by have := s2; simp only; omega) _).other (p := ⟨p, 6, none⟩) (by have := s2; simp only; omega) _
    · exact ((K3.setCell (p := ⟨p, 4, none⟩) (.inl (List.mem_cons_self ..)) _).setCell (p := ⟨p, 5, none⟩) (.inl (List.mem_cons_self ..)) _).setCell (p := ⟨p, 6, none⟩) (.inl (List.mem_cons_self ..)) _

end Go.Proofs.Ytangandfgbnomaa.V

namespace Go.Proofs.Ytangandfgbnomaa.V
open Go.RowKit
set_option linter.unusedVariables false
set_option linter.unusedSimpArgs false


theorem clear_calls {w : World} {p b : Nat} {s : S} (h : PSp w p b s) (hm : 2 ≤ s.model ∧ s.model ≤ 5) (alt : Bool) :
    Calls Try.prog 99 #[.pointer (some ⟨p, 0, none⟩), .bool alt] w fun e w' => e = .returned (.tuple #[]) ∧ ∃ b, w.heap.size ≤ b ∧ PSp w' p b (S.clr s.model alt) ∧ Keep [p] w w' := by
  obtain ⟨cap, ex, h0, h1, h2⟩ := h
  have h' : 2 ≤ (if alt = true then s.model else 2) ∧ (if alt = true then s.model else 2) ≤ 5 := by split <;> omega
  obtain ⟨f1, f2, f3⟩ := model_f _ h'
  have hp := vld_pos f3
  have e : cel (msize (if alt = true then s.model else 2)).1 (msize (if alt = true then s.model else 2)).2 = (((msize (if alt = true then s.model else 2)).1 * (msize (if alt = true then s.model else 2)).2).toNat : Int) := by unfold cel; rw [if_pos f3]; omega
  exact clear_walk _ _ _ _ _ _ _ _ _ _ _ alt h1 _ f1 f3 e

theorem Blk.new2 (w : World) (o : Obj) (cs : List Value) (t : TypeId) : Blk ((w.alloc o).alloc (.cells cs.toArray t)) (w.heap.size + 1) cs t := by
  have := Blk.new (w.alloc o) cs t
  have e : (w.alloc o).heap.size = w.heap.size + 1 := Array.size_push ..
  rw [e] at this; exact this

theorem World.size_alloc2 (w : World) (o o' : Obj) : ((w.alloc o).alloc o').heap.size = w.heap.size + 2 := (Array.size_push ..).trans (congrArg (· + 1) (Array.size_push ..))

set_option maxRecDepth 100000 in
set_option maxHeartbeats 2000000 in
theorem new_walk (w : World) (m R C' : Int) (N : Nat) (hm : addr_Model.f m = some (R, C', 0)) (hm2 : addr_Model.f 2 = some (24, 80, 0)) :
    Calls Try.prog 54 #[.int .i64 m] w fun e w' => ∃ p b, e = .returned (.tuple #[.pointer (some ⟨p, 0, none⟩), .int .i64 0]) ∧ w.heap.size ≤ p ∧ w.heap.size ≤ b ∧ PSp w' p b { model := m, alt := false, r := 24, c := 80, l := List.replicate 1920 C.zero, cur := 0 } ∧ Keep [] w w' := by
  have HM := Aside0.mk hm
  have HM2 := Aside0.mk hm2
  clear hm hm2
  go_enter Try.func54, Try.ntmps54
  go_wp2_with (first
    | (go_at_call 28; (with_reducible refine (addr_Model.calls _ _ _ _ _ HM.out).mono ?_); rintro e w1 ⟨rfl, hb1⟩
       have hb1' := hb1.size)
    | (go_at_call 99; go_loud (with_reducible refine (clear_walk m 0 0 0 0 24 80 false none 0 0 false (Blk.new2 _ _ [.int .i64 m, .bool false, .int .i64 0, .int .i64 0, .slice none 0 0, .int .i64 0, .int .i64 0] 155) 1920 (by simpa using HM2.out) (by decide +kernel) (by decide +kernel)).mono ?_); rintro e w2 ⟨rfl, b, hbb, hs, hk⟩))
  go_ret2
  refine ⟨_, b, rfl, ?_, ?_, hs, ?_⟩
  · omega
  · have : (((w1.alloc (.cells #[.int .i64 R, .int .i64 C'] 24)).alloc (.cells #[.int .i64 m, .bool false, .int .i64 0, .int .i64 0, .slice none 0 0, .int .i64 0, .int .i64 0] 155))).heap.size = w1.heap.size + 2 := by rw [World.size_alloc2]
    omega
  · exact (((Keep.refl [] w).call hb1).alloc _ |>.alloc _).trans hk (by intro x hx; right; simp at hx; omega)

set_option maxRecDepth 100000 in
set_option maxHeartbeats 2000000 in
theorem new_err (w : World) (m R C' er : Int) (hm : addr_Model.f m = some (R, C', er)) (he : er ≠ 0) :
    Calls Try.prog 54 #[.int .i64 m] w fun e w' => e = .returned (.tuple #[.pointer none, .int .i64 er]) ∧ Below w.heap.size w w' := by
  have HM := Aside0.mk hm
  clear hm
  go_enter Try.func54, Try.ntmps54
  go_wp2_with (first
    | (go_at_call 28; (with_reducible refine (addr_Model.calls _ _ _ _ _ HM.out).mono ?_); rintro e w1 ⟨rfl, hb1⟩
       have hb1' := hb1.size))
  go_ret2
  exact ⟨rfl, hb1.alloc (by omega) _⟩

end Go.Proofs.Ytangandfgbnomaa.V

