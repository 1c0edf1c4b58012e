/- Walks of the reference's attribute reading, fitting and wrapping. -/
import Derived.Test.YtangandfgbnomaaVT6
namespace Go.Proofs.Ytangandfgbnomaa.V
open Go.RowKit Go.Proofs.YtangandfgbnomaaW.PrintWords Go.Proofs.YtangandfgbnomaaW.PrintLast Go.Proofs.YtangandfgbnomaaW.PrintMore
set_option linter.unusedVariables false
set_option linter.unusedSimpArgs false


set_option maxRecDepth 100000 in
set_option maxHeartbeats 1000000 in
theorem of_walk (w : World) (x : Int) :
    Calls Try.prog 160 #[.int .u8 x] w fun e w' => e = .returned (.agg #[.bool (decide (32 ≤ (wrap64 x).tmod 64)), .bool ((wrap64 (((wrap64 x).tmod 64).tdiv 16)).tmod 2 == 1), .int .i64 ((wrap64 (((wrap64 x).tmod 64).tdiv 4)).tmod 4), .bool ((wrap64 x).tmod 2 == 1)]) ∧ Below w.heap.size w w' := by
  go_enter Try.func160, Try.ntmps160
  go_wp2
  refine bodyPost_ret (v := .agg #[.bool (decide (32 ≤ (wrap64 x).tmod 64)), .bool ((wrap64 (((wrap64 x).tmod 64).tdiv 16)).tmod 2 == 1), .int .i64 ((wrap64 (((wrap64 x).tmod 64).tdiv 4)).tmod 4), .bool ((wrap64 x).tmod 2 == 1)]) ?_ rfl ⟨rfl, (Below.refl _ w).alloc (Nat.le_refl _) _⟩
  simp only [results, Try.results160]
  go_simp

theorem six_f (n : Nat) (h : n < 256) : vitrineref05_Bits.f 10 (decide (32 ≤ (wrap64 n).tmod 64)) ((wrap64 (((wrap64 n).tmod 64).tdiv 16)).tmod 2 == 1) ((wrap64 (((wrap64 n).tmod 64).tdiv 4)).tmod 4) ((wrap64 n).tmod 2 == 1) = some (bits .and .u8 n 61, 0) := by
  have := (by decide +kernel : ∀ x : Fin 256, vitrineref05_Bits.f 10 (decide (32 ≤ (wrap64 x.val).tmod 64)) ((wrap64 (((wrap64 x.val).tmod 64).tdiv 16)).tmod 2 == 1) ((wrap64 (((wrap64 x.val).tmod 64).tdiv 4)).tmod 4) ((wrap64 x.val).tmod 2 == 1) = some (bits .and .u8 x.val 61, 0))
  exact this ⟨n, h⟩

set_option maxRecDepth 100000 in
set_option maxHeartbeats 1000000 in
theorem six_calls (w : World) (x : Int) (hx : 0 ≤ x ∧ x < 256) :
    Calls Try.prog 152 #[.int .u8 x] w fun e w' => e = .returned (.int .u8 (bits .and .u8 x 61)) ∧ Below w.heap.size w w' := by
  obtain ⟨n, rfl⟩ := Int.eq_ofNat_of_zero_le hx.1
  have hf := six_f n (by omega)
  generalize bits .and .u8 (n : Int) 61 = y at *
  generalize h1 : decide (32 ≤ (wrap64 n).tmod 64) = b1 at *
  generalize h2 : ((wrap64 (((wrap64 (n : Int)).tmod 64).tdiv 16)).tmod 2 == 1) = b2 at *
  generalize h3 : ((wrap64 (((wrap64 (n : Int)).tmod 64).tdiv 4)).tmod 4) = b3 at *
  generalize h4 : ((wrap64 (n : Int)).tmod 2 == 1) = b4 at *
  have hof : ∀ W, Calls Try.prog 160 #[.int .u8 n] W fun e w' => e = .returned (.agg #[.bool b1, .bool b2, .int .i64 b3, .bool b4]) ∧ Below W.heap.size W w' := fun W => by
    have := of_walk W n
    rw [h1, h2, h3, h4] at this
    exact this
  have HF := Aside0.mk hf
  clear hf h1 h2 h3 h4
  go_enter Try.func152, Try.ntmps152
  go_wp2_with (first
    | (go_at_call 160; (with_reducible refine (hof _).mono ?_); rintro e w1 ⟨rfl, hb1⟩)
    | (go_at_call 181; (with_reducible refine (vitrineref05_Bits.calls _ _ _ _ _ _ _ _ HF.out).mono ?_); rintro e w2 ⟨rfl, hb2⟩))
  go_ret
  exact ⟨rfl, ((Keep.of_below hb1 []).call hb2).below⟩

set_option maxRecDepth 100000 in
set_option maxHeartbeats 1000000 in
theorem fit_walk (w : World) (c : C) (hx : 0 ≤ c.fa ∧ c.fa < 256) (a : Bool) (ha : c.at_ = a) :
    Calls Try.prog 63 #[c.v] w fun e w' => e = .returned (fitc c).v ∧ Below w.heap.size w w' := by
  obtain ⟨ch, at_, fa, hi, co, se⟩ := c
  subst ha
  simp only [C.v, fitc]
  simp only at hx
  cases at_
  · go_enter Try.func63, Try.ntmps63
    go_wp2
    refine bodyPost_ret (v := .agg #[.int .u8 ch, .bool false, .int .u8 0, .int .u8 hi, .int .u8 co, .int .u8 se]) ?_ rfl ⟨rfl, ((Below.refl _ w).alloc (Nat.le_refl _) _).alloc (Array.size_push .. ▸ Nat.le_succ _) _⟩
    simp only [results, Try.results63]
    go_simp
  · go_enter Try.func63, Try.ntmps63
    have hs1 : ∀ o, (w.alloc o).heap.size = w.heap.size + 1 := fun o => Array.size_push ..
    go_wp2_with (go_at_call 152; (with_reducible refine (six_calls _ _ hx).mono ?_); rintro e w1 ⟨rfl, hb1⟩
                 have G1 := ((Blk.new w [.int .u8 ch, .bool true, .int .u8 fa, .int .u8 hi, .int .u8 co, .int .u8 se] 60).alloc _).call hb1
                 have G2 := (Blk.new2 w _ [.int .u8 0, .bool false, .int .u8 0, .int .u8 0, .int .u8 0, .int .u8 0] 60).call hb1
                 have g0 := G1.cell 0
                 have g1 := G1.cell 1
                 have g2 := G1.cell 2
                 have g3 := G1.cell 3
                 have g4 := G1.cell 4
                 have g5 := G1.cell 5
                 have gf := G1.frozen
                 have q0 := G2.cell 0
                 have q1 := G2.cell 1
                 have q2 := G2.cell 2
                 have q3 := G2.cell 3
                 have q4 := G2.cell 4
                 have q5 := G2.cell 5
                 have qf := G2.frozen
                 go_loud (simp at g0 g1 g2 g3 g4 g5 q0 q1 q2 q3 q4 q5))
    have k : Keep [] w w1 := (((Keep.refl [] w).alloc _).alloc _).call hb1
    refine bodyPost_ret (v := .agg #[.int .u8 0, .bool true, .int .u8 (bits .and .u8 fa 61), .int .u8 hi, .int .u8 co, .int .u8 se]) ?_ rfl ⟨rfl, Keep.below ((((((((k.setCell (p := ⟨w.heap.size, 0, none⟩) (.inr (Nat.le_refl _)) _).setCell (p := ⟨w.heap.size, 2, none⟩) (.inr (Nat.le_refl _)) _).setCell (p := ⟨w.heap.size + 1, 0, none⟩) (.inr (Nat.le_succ _)) _).setCell (p := ⟨w.heap.size + 1, 1, none⟩) (.inr (Nat.le_succ _)) _).setCell (p := ⟨w.heap.size + 1, 2, none⟩) (.inr (Nat.le_succ _)) _).setCell (p := ⟨w.heap.size + 1, 3, none⟩) (.inr (Nat.le_succ _)) _).setCell (p := ⟨w.heap.size + 1, 4, none⟩) (.inr (Nat.le_succ _)) _).setCell (p := ⟨w.heap.size + 1, 5, none⟩) (.inr (Nat.le_succ _)) _)⟩
    simp only [results, Try.results63]
    go_simp

theorem fit_calls (w : World) (c : C) (hx : 0 ≤ c.fa ∧ c.fa < 256) : Calls Try.prog 63 #[c.v] w fun e w' => e = .returned (fitc c).v ∧ Below w.heap.size w w' := fit_walk w c hx _ rfl

set_option maxHeartbeats 1000000 in
theorem rwrap_calls {w : World} {p b : Nat} {s : S} (h : RSp w p b s) (n : Int) :
    Calls Try.prog 65 #[.pointer (some ⟨p, 0, none⟩), .int .i64 n] w fun e w' => e = .returned (.int .i64 (wrp s.r s.c n)) ∧ Below w.heap.size w w' := by
  obtain ⟨cap, ex, h0, h1, h2⟩ := h
  have plt := h1.lt
  have f2 := h1.cell 2
  have f3 := h1.cell 3
  have ff := h1.frozen
  simp at f2 f3
  go_enter Try.func65, Try.ntmps65
  go_wp2_with (go_at_call 48; (with_reducible refine (r_wrap _ _ _ _).mono ?_); rintro e w1 ⟨rfl, hb1⟩)
  go_ret
  exact ⟨rfl, hb1⟩


end Go.Proofs.Ytangandfgbnomaa.V
