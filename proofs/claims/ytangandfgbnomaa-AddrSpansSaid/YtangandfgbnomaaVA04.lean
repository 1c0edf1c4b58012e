/- The awake of layer 4's laws. -/
import Derived.Test.YtangandfgbnomaaVB
import Derived.Test.YtangandfgbnomaaVP6
namespace Go.Proofs.Ytangandfgbnomaa.V
open Go.RowKit
set_option linter.unusedVariables false
set_option linter.unusedSimpArgs false

theorem results_tmp4 {fn : Func} {t u v x : Tmp} (h : fn.results = #[.tmp t, .tmp u, .tmp v, .tmp x]) (tmps : Array Value) (P : Program) (w : World) :
    (results fn tmps).run P w = .ok (.tuple #[tmps.getD t undef, tmps.getD u undef, tmps.getD v undef, tmps.getD x undef]) w := by
  simp [results, h]
attribute [local go_sem] Oper.semAt_some
set_option maxRecDepth 100000 in
theorem zone_1 (w : World) : Calls Try.prog 145 #[.int .i64 1] w fun e w' => e = .returned (.tuple #[.int .u8 64, .int .u8 192, .int .i64 1, .int .i64 9]) ∧ Below w.heap.size w w' := by
  go_enter Try.func145, Try.ntmps145
  go_wp2
  (try simp only [Exit.inBlock, Exit.then]); refine bodyPost_ret (results_tmp4 rfl _ _ _) rfl ?_
  exact ⟨rfl, Below.refl _ _⟩
set_option maxRecDepth 100000 in
theorem zone_17 (w : World) : Calls Try.prog 145 #[.int .i64 17] w fun e w' => e = .returned (.tuple #[.int .u8 80, .int .u8 208, .int .i64 1, .int .i64 9]) ∧ Below w.heap.size w w' := by
  go_enter Try.func145, Try.ntmps145
  go_wp2
  (try simp only [Exit.inBlock, Exit.then]); refine bodyPost_ret (results_tmp4 rfl _ _ _) rfl ?_
  exact ⟨rfl, Below.refl _ _⟩

set_option maxRecDepth 100000 in
theorem six_1 (w : World) : Calls Try.prog 42 #[.int .i64 1] w fun e w' => e = .returned (.int .u8 193) ∧ Below w.heap.size w w' := by
  have e1 : bits .and .i64 1 63 = 1 := by decide +kernel
  have e2 : bits .and .i64 1 15 = 1 := by decide +kernel
  have e3 : bits .or .u8 192 1 = 193 := by decide +kernel
  go_enter Try.func42, Try.ntmps42
  go_wp2_with (go_at_call 145; (with_reducible refine (zone_1 _).mono ?_); rintro e w1 ⟨rfl, hb1⟩)
  go_ret
  exact ⟨rfl, hb1⟩

set_option maxRecDepth 100000 in
theorem six_81 (w : World) : Calls Try.prog 42 #[.int .i64 81] w fun e w' => e = .returned (.int .u8 209) ∧ Below w.heap.size w w' := by
  have e1 : bits .and .i64 81 63 = 17 := by decide +kernel
  have e2 : bits .and .i64 17 15 = 1 := by decide +kernel
  have e3 : bits .or .u8 208 1 = 209 := by decide +kernel
  go_enter Try.func42, Try.ntmps42
  go_wp2_with (go_at_call 145; (with_reducible refine (zone_17 _).mono ?_); rintro e w1 ⟨rfl, hb1⟩)
  go_ret
  exact ⟨rfl, hb1⟩

set_option maxRecDepth 100000 in
theorem same_38 {w : World} {a b : Nat} (h1 : Blk w a [.int .u8 193, .int .u8 209] 5) (h2 : Blk w b [.int .u8 193, .int .u8 209] 5) : Calls Try.prog 38 #[.slice (some ⟨a, 0, none⟩) 2 2, .slice (some ⟨b, 0, none⟩) 2 2] w fun e w' => e = .returned (.bool true) ∧ Below w.heap.size w w' := by
  have c1 := run_convert_bytes_arg (P := Try.prog) w 36 5 (by kernel_rfl) (by kernel_rfl) a 0 2 2 [193, 209] rfl (fun i hi => by
    rw [Nat.zero_add, h1.cell i]; rcases i with _ | _ | i
    · rfl
    · rfl
    · omega) 9 (by kernel_rfl)
  have c2 := run_convert_bytes_arg (P := Try.prog) w 36 5 (by kernel_rfl) (by kernel_rfl) b 0 2 2 [193, 209] rfl (fun i hi => by
    rw [Nat.zero_add, h2.cell i]; rcases i with _ | _ | i
    · rfl
    · rfl
    · omega) 9 (by kernel_rfl)
  generalize strOfNums [193, 209] = s at *
  go_enter Try.func38, Try.ntmps38
  go_wp2
  go_ret
  exact ⟨by simp, Below.refl _ _⟩
set_option maxRecDepth 100000 in
theorem enc_12 (w : World) : Calls Try.prog 36 #[.int .i64 12, .int .i64 81] w fun e w' => ∃ g, e = .returned (.tuple #[.slice (some ⟨g, 0, none⟩) 2 2, .int .i64 0]) ∧ Blk w' g [.int .u8 193, .int .u8 209] 5 ∧ Keep [] w w' := by
  go_enter Try.func36, Try.ntmps36
  go_wp2_with (first
    | (go_at_call 42; (with_reducible refine (six_1 _).mono ?_); rintro e w1 ⟨rfl, hb1⟩)
    | (go_at_call 42; (with_reducible refine (six_81 _).mono ?_); rintro e w2 ⟨rfl, hb2⟩))
  go_ret2
  exact ⟨_, rfl, Blk.new _ _ _, ((Keep.of_below hb1 []).call hb2).alloc _⟩
set_option maxRecDepth 100000 in
theorem dec_12 {w : World} {b : Nat} (h : Blk w b [.int .u8 0, .int .u8 81] 5) : Calls Try.prog 39 #[.int .i64 12, .slice (some ⟨b, 0, none⟩) 2 2] w fun e w' => e = .returned (.tuple #[.int .i64 81, .int .i64 0]) ∧ Below w.heap.size w w' := by
  have h0 := h.cell 0
  have h1 := h.cell 1
  simp only [List.getElem?_cons_zero, List.getElem?_cons_succ] at h0 h1
  have e1 : bits .or .i64 0 81 = 81 := by decide +kernel
  go_enter Try.func39, Try.ntmps39
  go_wp2
  go_region
  go_wp2
  go_ret2
  exact ⟨rfl, (Below.refl _ _).drew⟩

theorem move_79 (w : World) : Calls Try.prog 31 #[.agg #[.int .i64 24, .int .i64 80], .int .i64 1919, .int .i64 1, .int .i64 0] w fun e w' => e = .returned (.int .i64 79) ∧ Below w.heap.size w w' := by
  have := c_move (w := w) 24 80 1919 1 0
  rw [show mov 24 80 1919 1 0 = 79 by decide +kernel] at this
  exact this
theorem move_0 (w : World) : Calls Try.prog 31 #[.agg #[.int .i64 24, .int .i64 80], .int .i64 1919, .int .i64 0, .int .i64 1] w fun e w' => e = .returned (.int .i64 0) ∧ Below w.heap.size w w' := by
  have := c_move (w := w) 24 80 1919 0 1
  rw [show mov 24 80 1919 0 1 = 0 by decide +kernel] at this
  exact this
set_option maxRecDepth 100000 in
set_option maxHeartbeats 2000000 in
theorem awake04 (w : World) : Calls Try.prog 27 #[] w fun e w' => e = .returned (.bool true) ∧ Below w.heap.size w w' := by
  go_enter Try.func27, Try.ntmps27
  go_wp2_with (first
    | (go_at_call 28; (with_reducible refine (model28_2 _).mono ?_); rintro e w1 ⟨rfl, hb1⟩)
    | (go_at_call 36; (with_reducible refine (enc_12 _).mono ?_); rintro e w2 ⟨g, rfl, hg, hk2⟩)
    | (go_at_call 39; refine (dec_12 (Blk.new _ _ _)).mono ?_; rintro e w3 ⟨rfl, hb3⟩
       have k3 := (Keep.refl [] w2).alloc (.cells #[.int .u8 0, .int .u8 81] 5) |>.call hb3
       have hb := (Blk.new w1 [.int .i64 24, .int .i64 80] 24)
       have kk := (Keep.refl [] w1).alloc (.cells #[.int .i64 24, .int .i64 80] 24)
       have hb0 := (hb.keep hk2 (by simp)).keep k3 (by simp)
       have kw := ((Keep.of_below hb1 []).trans kk (by simp)).trans (hk2.trans k3 (by simp)) (by simp)
       have hg3 := hg.keep k3 (by simp)
       clear hb3 hb kk hk2 k3 hg hb1)
    | (go_at_call 38; refine (same_38 (hg3.alloc _) (Blk.new _ _ _)).mono ?_; rintro e w4 ⟨rfl, hb4⟩
       have k4 := ((Keep.refl [] w3).alloc (.cells #[.int .u8 193, .int .u8 209] 5)).call hb4
       have hb5 := hb0.keep k4 (by simp)
       have kw4 := kw.trans k4 (by simp)
       have c0 := hb5.cell 0
       have c1 := hb5.cell 1
       simp only [List.getElem?_cons_zero, List.getElem?_cons_succ] at c0 c1
       clear hb4 kw k4 hg3 hb0)
    | (go_at_call 31; (with_reducible refine (move_79 _).mono ?_); rintro e w5 ⟨rfl, hb5'⟩
       have hb6 := hb5.keep (Keep.of_below hb5' []) (by simp)
       have c0 := hb6.cell 0
       have c1 := hb6.cell 1
       simp only [List.getElem?_cons_zero, List.getElem?_cons_succ] at c0 c1)
    | (go_at_call 31; (with_reducible refine (move_0 _).mono ?_); rintro e w6 ⟨rfl, hb6'⟩))
  go_ret
  exact ⟨rfl, ((kw4.call hb5').call hb6').below⟩

end Go.Proofs.Ytangandfgbnomaa.V
