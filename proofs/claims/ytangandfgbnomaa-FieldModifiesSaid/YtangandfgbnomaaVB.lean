/- The contracts of addr, of its reference, of the space's count and of the reference's attribute bits: walked by hand. -/
import Derived.Test.YtangandfgbnomaaVQ
namespace Go.Proofs.Ytangandfgbnomaa.V
open Go.RowKit
set_option linter.unusedVariables false
set_option linter.unusedSimpArgs false

section
variable (R C n a b : Int) (w : World)
set_option maxRecDepth 100000 in
set_option maxHeartbeats 2000000 in
theorem c_valid : Calls Try.prog 30 #[sz R C] w fun e w' => e = .returned (.bool (vld R C)) ∧ Below w.heap.size w w' := by
  have kb : ∀ o : Obj, Below w.heap.size w (w.alloc o) := fun o => (Below.refl _ w).alloc (Nat.le_refl _) o
  by_cases h0 : 1 ≤ R
  case neg =>
    have hv : vld R C = false := by unfold vld; exact decide_eq_false (by omega)
    have HV := Aside0.mk hv
    clear hv
    go_enter Try.func30, Try.ntmps30
    go_wp2
    go_ret
    exact ⟨by rw [HV.out]; first | rfl | simp, kb _⟩
  by_cases h1 : R ≤ 43
  case neg =>
    have hv : vld R C = false := by unfold vld; exact decide_eq_false (by omega)
    have HV := Aside0.mk hv
    clear hv
    go_enter Try.func30, Try.ntmps30
    go_wp2
    go_ret
    exact ⟨by rw [HV.out]; first | rfl | simp, kb _⟩
  by_cases h2 : 1 ≤ C
  case neg =>
    have hv : vld R C = false := by unfold vld; exact decide_eq_false (by omega)
    have HV := Aside0.mk hv
    clear hv
    go_enter Try.func30, Try.ntmps30
    go_wp2
    go_ret
    exact ⟨by rw [HV.out]; first | rfl | simp, kb _⟩
  by_cases h3 : C ≤ 132
  case neg =>
    have hv : vld R C = false := by unfold vld; exact decide_eq_false (by omega)
    have HV := Aside0.mk hv
    clear hv
    go_enter Try.func30, Try.ntmps30
    go_wp2
    go_ret
    exact ⟨by rw [HV.out]; first | rfl | simp, kb _⟩
  have hm := mul_bound h0 h1 h2 h3
  have hw : wrap64 (R * C) = R * C := by unfold wrap64; omega
  have hv : vld R C = decide (R * C ≤ 3564) := by unfold vld; rw [decide_eq_decide]; omega
  have HV := Aside0.mk hv
  obtain ⟨m, hmm⟩ : ∃ m, R * C = m := ⟨_, rfl⟩
  have HM := Aside0.mk hmm
  clear hv hm hmm
  go_enter Try.func30, Try.ntmps30
  go_wp2
  go_ret
  exact ⟨by rw [HV.out]; first | rfl | simp, kb _⟩
set_option maxRecDepth 100000 in
set_option maxHeartbeats 2000000 in
theorem r_valid : Calls Try.prog 46 #[sz R C] w fun e w' => e = .returned (.bool (vld R C)) ∧ Below w.heap.size w w' := by
  have kb : ∀ o : Obj, Below w.heap.size w (w.alloc o) := fun o => (Below.refl _ w).alloc (Nat.le_refl _) o
  by_cases h0 : 1 ≤ R
  case neg =>
    have hv : vld R C = false := by unfold vld; exact decide_eq_false (by omega)
    have HV := Aside0.mk hv
    clear hv
    go_enter Try.func46, Try.ntmps46
    go_wp2
    go_ret
    exact ⟨by rw [HV.out]; first | rfl | simp, kb _⟩
  by_cases h1 : R ≤ 43
  case neg =>
    have hv : vld R C = false := by unfold vld; exact decide_eq_false (by omega)
    have HV := Aside0.mk hv
    clear hv
    go_enter Try.func46, Try.ntmps46
    go_wp2
    go_ret
    exact ⟨by rw [HV.out]; first | rfl | simp, kb _⟩
  by_cases h2 : 1 ≤ C
  case neg =>
    have hv : vld R C = false := by unfold vld; exact decide_eq_false (by omega)
    have HV := Aside0.mk hv
    clear hv
    go_enter Try.func46, Try.ntmps46
    go_wp2
    go_ret
    exact ⟨by rw [HV.out]; first | rfl | simp, kb _⟩
  by_cases h3 : C ≤ 132
  case neg =>
    have hv : vld R C = false := by unfold vld; exact decide_eq_false (by omega)
    have HV := Aside0.mk hv
    clear hv
    go_enter Try.func46, Try.ntmps46
    go_wp2
    go_ret
    exact ⟨by rw [HV.out]; first | rfl | simp, kb _⟩
  have hm := mul_bound h0 h1 h2 h3
  have hw : wrap64 (R * C) = R * C := by unfold wrap64; omega
  have hv : vld R C = decide (R * C ≤ 3564) := by unfold vld; rw [decide_eq_decide]; omega
  have HV := Aside0.mk hv
  obtain ⟨m, hmm⟩ : ∃ m, R * C = m := ⟨_, rfl⟩
  have HM := Aside0.mk hmm
  clear hv hm hmm
  go_enter Try.func46, Try.ntmps46
  go_wp2
  go_ret
  exact ⟨by rw [HV.out]; first | rfl | simp, kb _⟩
set_option maxRecDepth 100000 in
theorem c_cells : Calls Try.prog 33 #[sz R C] w fun e w' => e = .returned (.int .i64 (cel R C)) ∧ Below w.heap.size w w' := by
  have k0 : Keep [] w w := Keep.refl _ _
  have k1 : Keep [] w (w.alloc (.cells #[.int .i64 R, .int .i64 C] 24)) := k0.alloc _
  have bb := Blk.new w [.int .i64 R, .int .i64 C] 24
  have g0 : ∀ W, Keep [] (w.alloc (.cells #[.int .i64 R, .int .i64 C] 24)) W → W.cell? ⟨w.heap.size, 0, none⟩ = some (.int .i64 R) := fun W k => (bb.keep k (by simp)).cell 0
  have g1 : ∀ W, Keep [] (w.alloc (.cells #[.int .i64 R, .int .i64 C] 24)) W → W.cell? ⟨w.heap.size, 1, none⟩ = some (.int .i64 C) := fun W k => (bb.keep k (by simp)).cell 1
  clear bb
  have hv := c_valid R C
  by_cases h : vld R C = true
  · have hp := vld_pos h
    have HW := Aside0.mk (show wrap64 (R * C) = R * C by unfold wrap64; omega)
    have hc : cel R C = R * C := by unfold cel; rw [if_pos h]
    rw [hc]
    rw [h] at hv
    clear hc hp h
    go_enter Try.func33, Try.ntmps33
    go_wp2_with (go_at_call 30; (with_reducible refine (hv _).mono ?_); rintro e w1 ⟨rfl, hb1⟩; have k2 := (Keep.refl [] _).call hb1; have e0 := g0 _ k2; have e1 := g1 _ k2; have HB := Aside0.mk hb1)
    go_ret
    exact ⟨by show Ending.returned (.int .i64 (wrap64 (R * C))) = _; rw [HW.out], (k1.call HB.out).below⟩
  · have h' : vld R C = false := by simpa using h
    have hc : cel R C = 0 := by unfold cel; rw [if_neg h]
    rw [hc]
    rw [h'] at hv
    clear hc h h'
    go_enter Try.func33, Try.ntmps33
    go_wp2_with (go_at_call 30; (with_reducible refine (hv _).mono ?_); rintro e w1 ⟨rfl, hb1⟩; have HB := Aside0.mk hb1)
    go_ret
    exact ⟨rfl, (k1.call HB.out).below⟩
set_option maxRecDepth 100000 in
theorem r_cells : Calls Try.prog 47 #[sz R C] w fun e w' => e = .returned (.int .i64 (cel R C)) ∧ Below w.heap.size w w' := by
  have k0 : Keep [] w w := Keep.refl _ _
  have k1 : Keep [] w (w.alloc (.cells #[.int .i64 R, .int .i64 C] 28)) := k0.alloc _
  have bb := Blk.new w [.int .i64 R, .int .i64 C] 28
  have g0 : ∀ W, Keep [] (w.alloc (.cells #[.int .i64 R, .int .i64 C] 28)) W → W.cell? ⟨w.heap.size, 0, none⟩ = some (.int .i64 R) := fun W k => (bb.keep k (by simp)).cell 0
  have g1 : ∀ W, Keep [] (w.alloc (.cells #[.int .i64 R, .int .i64 C] 28)) W → W.cell? ⟨w.heap.size, 1, none⟩ = some (.int .i64 C) := fun W k => (bb.keep k (by simp)).cell 1
  clear bb
  have hv := r_valid R C
  by_cases h : vld R C = true
  · have hp := vld_pos h
    have HW := Aside0.mk (show wrap64 (R * C) = R * C by unfold wrap64; omega)
    have hc : cel R C = R * C := by unfold cel; rw [if_pos h]
    rw [hc]
    rw [h] at hv
    clear hc hp h
    go_enter Try.func47, Try.ntmps47
    go_wp2_with (go_at_call 46; (with_reducible refine (hv _).mono ?_); rintro e w1 ⟨rfl, hb1⟩; have k2 := (Keep.refl [] _).call hb1; have e0 := g0 _ k2; have e1 := g1 _ k2; have HB := Aside0.mk hb1)
    go_ret
    exact ⟨by show Ending.returned (.int .i64 (wrap64 (R * C))) = _; rw [HW.out], (k1.call HB.out).below⟩
  · have h' : vld R C = false := by simpa using h
    have hc : cel R C = 0 := by unfold cel; rw [if_neg h]
    rw [hc]
    rw [h'] at hv
    clear hc h h'
    go_enter Try.func47, Try.ntmps47
    go_wp2_with (go_at_call 46; (with_reducible refine (hv _).mono ?_); rintro e w1 ⟨rfl, hb1⟩; have HB := Aside0.mk hb1)
    go_ret
    exact ⟨rfl, (k1.call HB.out).below⟩

set_option maxRecDepth 100000 in
theorem c_rest (h1 : 1 ≤ b) (h2 : b ≤ 5676) : Calls Try.prog 143 #[.int .i64 a, .int .i64 b] w fun e w' => e = .returned (.int .i64 (a % b)) ∧ Below w.heap.size w w' := by
  have hr := tmod_range a b (by omega)
  have he := rest_eq a b (by omega)
  obtain ⟨m, hm⟩ : ∃ m, Int.tmod a b = m := ⟨_, rfl⟩
  rw [hm] at hr he
  have hb0 : ¬ b = 0 := by omega
  have hb1 : (b == 0) = false := by simpa using hb0
  by_cases hs : m < 0
  · rw [if_pos hs] at he
    have hw : wrap64 (m + b) = m + b := by unfold wrap64; omega
    have HE := Aside0.mk he
    clear he
    go_enter Try.func143, Try.ntmps143
    go_wp2
    go_ret
    exact ⟨by rw [HE.out]; rfl, Below.refl _ _⟩
  · rw [if_neg hs] at he
    have HE := Aside0.mk he
    clear he
    go_enter Try.func143, Try.ntmps143
    go_wp2
    go_ret
    exact ⟨by rw [HE.out]; rfl, Below.refl _ _⟩
set_option maxRecDepth 100000 in
theorem r_mod (h1 : 1 ≤ b) (h2 : b ≤ 5676) : Calls Try.prog 146 #[.int .i64 a, .int .i64 b] w fun e w' => e = .returned (.int .i64 (a % b)) ∧ Below w.heap.size w w' := by
  have hr := tmod_range a b (by omega)
  have he := tmod_up a b (by omega)
  obtain ⟨m, hm⟩ : ∃ m, Int.tmod a b = m := ⟨_, rfl⟩
  rw [hm] at hr he
  have hb0 : ¬ b = 0 := by omega
  have hb1 : (b == 0) = false := by simpa using hb0
  have hbl : decide (b < 1) = false := decide_eq_false (by omega)
  have hw : wrap64 (m + b) = m + b := by unfold wrap64; omega
  have hmb : 0 ≤ m + b := by omega
  rw [Int.tmod_eq_emod_of_nonneg hmb] at he
  have HE := Aside0.mk he
  clear he
  go_enter Try.func146, Try.ntmps146
  go_wp2
  go_ret
  exact ⟨by first | (rw [← HE.out]; rfl) | (rw [← HE.out]; simp), Below.refl _ _⟩
set_option maxRecDepth 100000 in
theorem r_mod0 : Calls Try.prog 146 #[.int .i64 a, .int .i64 0] w fun e w' => e = .returned (.int .i64 0) ∧ Below w.heap.size w w' := by
  go_enter Try.func146, Try.ntmps146
  go_wp2
  go_ret
  exact ⟨rfl, Below.refl _ _⟩
set_option maxRecDepth 100000 in
theorem c_wrap : Calls Try.prog 32 #[sz R C, .int .i64 n] w fun e w' => e = .returned (.int .i64 (wrp R C n)) ∧ Below w.heap.size w w' := by
  have k0 : Keep [] w w := Keep.refl _ _
  have k1 : Keep [] w (w.alloc (.cells #[.int .i64 R, .int .i64 C] 24)) := k0.alloc _
  have bb := Blk.new w [.int .i64 R, .int .i64 C] 24
  have g0 : ∀ W, Keep [] (w.alloc (.cells #[.int .i64 R, .int .i64 C] 24)) W → W.cell? ⟨w.heap.size, 0, none⟩ = some (.int .i64 R) := fun W k => (bb.keep k (by simp)).cell 0
  have g1 : ∀ W, Keep [] (w.alloc (.cells #[.int .i64 R, .int .i64 C] 24)) W → W.cell? ⟨w.heap.size, 1, none⟩ = some (.int .i64 C) := fun W k => (bb.keep k (by simp)).cell 1
  clear bb
  have hv := c_valid R C
  have hce := c_cells R C
  by_cases h : vld R C = true
  · have hp := vld_pos h
    have hc : cel R C = R * C := by unfold cel; rw [if_pos h]
    have hw : wrp R C n = n % (R * C) := by unfold wrp; rw [if_pos h]
    have hre := fun W => c_rest n (R * C) W (by omega) (by omega)
    rw [hc] at hce
    rw [hw]
    rw [h] at hv
    obtain ⟨m, hm⟩ : ∃ m, R * C = m := ⟨_, rfl⟩
    rw [hm] at hce hre ⊢
    obtain ⟨y, hy⟩ : ∃ y, n % m = y := ⟨_, rfl⟩
    rw [hy] at hre ⊢
    clear hc hp h hw hm hy
    go_enter Try.func32, Try.ntmps32
    go_wp2_with (first
      | (go_at_call 30; (with_reducible refine (hv _).mono ?_); rintro e w1 ⟨rfl, hb1⟩; have k2 := (Keep.refl [] _).call hb1; have e0 := g0 _ k2; have e1 := g1 _ k2; have HB := Aside0.mk hb1)
      | (go_at_call 33; (with_reducible refine (hce _).mono ?_); rintro e w2 ⟨rfl, hb2⟩)
      | (go_at_call 143; (with_reducible refine (hre _).mono ?_); rintro e w3 ⟨rfl, hb3⟩))
    go_ret
    exact ⟨rfl, (((k1.call HB.out).call hb2).call hb3).below⟩
  · have h' : vld R C = false := by simpa using h
    have hc : wrp R C n = 0 := by unfold wrp; rw [if_neg h]
    rw [hc]
    rw [h'] at hv
    clear hc h h'
    go_enter Try.func32, Try.ntmps32
    go_wp2_with (go_at_call 30; (with_reducible refine (hv _).mono ?_); rintro e w1 ⟨rfl, hb1⟩; have HB := Aside0.mk hb1)
    go_ret
    exact ⟨rfl, (k1.call HB.out).below⟩
set_option maxRecDepth 100000 in
theorem r_wrap : Calls Try.prog 48 #[sz R C, .int .i64 n] w fun e w' => e = .returned (.int .i64 (wrp R C n)) ∧ Below w.heap.size w w' := by
  have k0 : Keep [] w w := Keep.refl _ _
  have k1 : Keep [] w (w.alloc (.cells #[.int .i64 R, .int .i64 C] 28)) := k0.alloc _
  have bb := Blk.new w [.int .i64 R, .int .i64 C] 28
  have g0 : ∀ W, Keep [] (w.alloc (.cells #[.int .i64 R, .int .i64 C] 28)) W → W.cell? ⟨w.heap.size, 0, none⟩ = some (.int .i64 R) := fun W k => (bb.keep k (by simp)).cell 0
  have g1 : ∀ W, Keep [] (w.alloc (.cells #[.int .i64 R, .int .i64 C] 28)) W → W.cell? ⟨w.heap.size, 1, none⟩ = some (.int .i64 C) := fun W k => (bb.keep k (by simp)).cell 1
  clear bb
  have hce := r_cells R C
  by_cases h : vld R C = true
  · have hp := vld_pos h
    have hc : cel R C = R * C := by unfold cel; rw [if_pos h]
    have hw : wrp R C n = n % (R * C) := by unfold wrp; rw [if_pos h]
    have hre := fun W => r_mod n (R * C) W (by omega) (by omega)
    rw [hc] at hce
    rw [hw]
    obtain ⟨m, hm⟩ : ∃ m, R * C = m := ⟨_, rfl⟩
    rw [hm] at hce hre ⊢
    obtain ⟨y, hy⟩ : ∃ y, n % m = y := ⟨_, rfl⟩
    rw [hy] at hre ⊢
    clear hc hp h hw hm hy
    go_enter Try.func48, Try.ntmps48
    go_wp2_with (first
      | (go_at_call 47; (with_reducible refine (hce _).mono ?_); rintro e w2 ⟨rfl, hb2⟩; have HB := Aside0.mk hb2)
      | (go_at_call 146; (with_reducible refine (hre _).mono ?_); rintro e w3 ⟨rfl, hb3⟩))
    go_ret
    exact ⟨rfl, ((k1.call HB.out).call hb3).below⟩
  · have hc : cel R C = 0 := by unfold cel; rw [if_neg h]
    have hw : wrp R C n = 0 := by unfold wrp; rw [if_neg h]
    rw [hw]
    rw [hc] at hce
    have hre := r_mod0 n
    clear hc h hw
    go_enter Try.func48, Try.ntmps48
    go_wp2_with (first
      | (go_at_call 47; (with_reducible refine (hce _).mono ?_); rintro e w2 ⟨rfl, hb2⟩; have HB := Aside0.mk hb2)
      | (go_at_call 146; (with_reducible refine (hre _).mono ?_); rintro e w3 ⟨rfl, hb3⟩))
    go_ret
    exact ⟨rfl, ((k1.call HB.out).call hb3).below⟩
set_option maxRecDepth 100000 in
theorem c_row : Calls Try.prog 35 #[sz R C, .int .i64 n] w fun e w' => e = .returned (.int .i64 (row R C n)) ∧ Below w.heap.size w w' := by
  have k0 : Keep [] w w := Keep.refl _ _
  have k1 : Keep [] w (w.alloc (.cells #[.int .i64 R, .int .i64 C] 24)) := k0.alloc _
  have bb := Blk.new w [.int .i64 R, .int .i64 C] 24
  have g0 : ∀ W, Keep [] (w.alloc (.cells #[.int .i64 R, .int .i64 C] 24)) W → W.cell? ⟨w.heap.size, 0, none⟩ = some (.int .i64 R) := fun W k => (bb.keep k (by simp)).cell 0
  have g1 : ∀ W, Keep [] (w.alloc (.cells #[.int .i64 R, .int .i64 C] 24)) W → W.cell? ⟨w.heap.size, 1, none⟩ = some (.int .i64 C) := fun W k => (bb.keep k (by simp)).cell 1
  clear bb
  have hv := c_valid R C
  have hwr := c_wrap R C n
  by_cases h : vld R C = true
  · have hp := vld_pos h
    have hi := in_place R C n h
    have hw : wrp R C n = n % (R * C) := by unfold wrp; rw [if_pos h]
    have hd : row R C n = n % (R * C) / C := by unfold row; rw [if_pos h]
    rw [hd]
    rw [hw] at hwr
    rw [h] at hv
    obtain ⟨y, hy⟩ : ∃ y, n % (R * C) = y := ⟨_, rfl⟩
    rw [hy] at hwr hi ⊢
    have y0 := hi.1
    have c0 : ¬ C = 0 := by omega
    have c1 : (C == 0) = false := by simpa using c0
    have c2 : 0 < C := by omega
    have eq1 : Int.tdiv y C = y / C := Int.tdiv_eq_ediv_of_nonneg y0
    have wq : wrap64 (y / C) = y / C := by unfold wrap64; omega
    have iq : IntKind.i64.wrap (y / C) = y / C := by rw [IntKind.wrap_i64]; omega
    clear hp h hw hd hy hi
    go_enter Try.func35, Try.ntmps35
    go_wp2_with (go_at_call 30; (with_reducible refine (hv _).mono ?_); rintro e w1 ⟨rfl, hb1⟩; have HB := Aside0.mk ((Keep.refl [] _).call hb1); clear hb1)
    have f0 : ∀ W, Keep [] w1 W → W.cell? ⟨w.heap.size, 0, none⟩ = some (.int .i64 R) := fun W k => g0 W (HB.out.trans k (by simp))
    have f1 : ∀ W, Keep [] w1 W → W.cell? ⟨w.heap.size, 1, none⟩ = some (.int .i64 C) := fun W k => g1 W (HB.out.trans k (by simp))
    clear g0 g1
    refine wp_quiet_all (K := fun W => Keep [] w1 W) (by kernel_rfl) (by kernel_rfl) (Keep.refl [] w1).drew ?_
    repeat (first
      | go_big_quiet_skip
      | (go_big_quiet_want; first
          | (go_big_quiet_op; first
              | go_big_quiet_on
              | (go_big_quiet_call ((intro hW; first
                  | exact Calls.mono (hwr _) (fun e W' h => ⟨h.1, hW.call h.2⟩)))))
          | (apply quiet_of
             · (intro W hW
                go_simp
                with_reducible rfl)
             simp only [Act.put, List.setIfInBounds_toArray, List.set_cons_zero, List.set_cons_succ]
             go_big_quiet_on)))
    refine wpQuiet_nil ?_
    intro W2 k2
    clear f0 f1
    go_wp2
    go_ret
    exact ⟨rfl, ((k1.trans HB.out (by simp)).trans k2 (by simp)).below⟩
  · have h' : vld R C = false := by simpa using h
    have hc : row R C n = 0 := by unfold row; rw [if_neg h]
    rw [hc]
    rw [h'] at hv
    clear hc h h'
    go_enter Try.func35, Try.ntmps35
    go_wp2_with (go_at_call 30; (with_reducible refine (hv _).mono ?_); rintro e w1 ⟨rfl, hb1⟩; have HB := Aside0.mk hb1)
    go_ret
    exact ⟨rfl, (k1.call HB.out).below⟩
set_option maxRecDepth 100000 in
theorem c_col : Calls Try.prog 34 #[sz R C, .int .i64 n] w fun e w' => e = .returned (.int .i64 (col R C n)) ∧ Below w.heap.size w w' := by
  have k0 : Keep [] w w := Keep.refl _ _
  have k1 : Keep [] w (w.alloc (.cells #[.int .i64 R, .int .i64 C] 24)) := k0.alloc _
  have bb := Blk.new w [.int .i64 R, .int .i64 C] 24
  have g0 : ∀ W, Keep [] (w.alloc (.cells #[.int .i64 R, .int .i64 C] 24)) W → W.cell? ⟨w.heap.size, 0, none⟩ = some (.int .i64 R) := fun W k => (bb.keep k (by simp)).cell 0
  have g1 : ∀ W, Keep [] (w.alloc (.cells #[.int .i64 R, .int .i64 C] 24)) W → W.cell? ⟨w.heap.size, 1, none⟩ = some (.int .i64 C) := fun W k => (bb.keep k (by simp)).cell 1
  clear bb
  have hv := c_valid R C
  have hwr := c_wrap R C n
  by_cases h : vld R C = true
  · have hp := vld_pos h
    have hi := in_place R C n h
    have hw : wrp R C n = n % (R * C) := by unfold wrp; rw [if_pos h]
    have hd : col R C n = n % (R * C) % C := by unfold col; rw [if_pos h]
    rw [hd]
    rw [hw] at hwr
    rw [h] at hv
    obtain ⟨y, hy⟩ : ∃ y, n % (R * C) = y := ⟨_, rfl⟩
    rw [hy] at hwr hi ⊢
    have y0 := hi.1
    have c0 : ¬ C = 0 := by omega
    have c1 : (C == 0) = false := by simpa using c0
    have c2 : 0 < C := by omega
    have eq1 : Int.tmod y C = y % C := Int.tmod_eq_emod_of_nonneg y0
    have wq : wrap64 (y % C) = y % C := by unfold wrap64; omega
    have iq : IntKind.i64.wrap (y % C) = y % C := by rw [IntKind.wrap_i64]; omega
    clear hp h hw hd hy hi
    go_enter Try.func34, Try.ntmps34
    go_wp2_with (go_at_call 30; (with_reducible refine (hv _).mono ?_); rintro e w1 ⟨rfl, hb1⟩; have HB := Aside0.mk ((Keep.refl [] _).call hb1); clear hb1)
    have f0 : ∀ W, Keep [] w1 W → W.cell? ⟨w.heap.size, 0, none⟩ = some (.int .i64 R) := fun W k => g0 W (HB.out.trans k (by simp))
    have f1 : ∀ W, Keep [] w1 W → W.cell? ⟨w.heap.size, 1, none⟩ = some (.int .i64 C) := fun W k => g1 W (HB.out.trans k (by simp))
    clear g0 g1
    refine wp_quiet_all (K := fun W => Keep [] w1 W) (by kernel_rfl) (by kernel_rfl) (Keep.refl [] w1).drew ?_
    repeat (first
      | go_big_quiet_skip
      | (go_big_quiet_want; first
          | (go_big_quiet_op; first
              | go_big_quiet_on
              | (go_big_quiet_call ((intro hW; first
                  | exact Calls.mono (hwr _) (fun e W' h => ⟨h.1, hW.call h.2⟩)))))
          | (apply quiet_of
             · (intro W hW
                go_simp
                with_reducible rfl)
             simp only [Act.put, List.setIfInBounds_toArray, List.set_cons_zero, List.set_cons_succ]
             go_big_quiet_on)))
    refine wpQuiet_nil ?_
    intro W2 k2
    clear f0 f1
    go_wp2
    go_ret
    exact ⟨rfl, ((k1.trans HB.out (by simp)).trans k2 (by simp)).below⟩
  · have h' : vld R C = false := by simpa using h
    have hc : col R C n = 0 := by unfold col; rw [if_neg h]
    rw [hc]
    rw [h'] at hv
    clear hc h h'
    go_enter Try.func34, Try.ntmps34
    go_wp2_with (go_at_call 30; (with_reducible refine (hv _).mono ?_); rintro e w1 ⟨rfl, hb1⟩; have HB := Aside0.mk hb1)
    go_ret
    exact ⟨rfl, (k1.call HB.out).below⟩
set_option maxRecDepth 100000 in
set_option maxHeartbeats 1000000 in
theorem c_at : Calls Try.prog 49 #[sz R C, .int .i64 a, .int .i64 b] w fun e w' => e = .returned (.int .i64 (att R C a b)) ∧ Below w.heap.size w w' := by
  have k0 : Keep [] w w := Keep.refl _ _
  have k1 : Keep [] w (w.alloc (.cells #[.int .i64 R, .int .i64 C] 24)) := k0.alloc _
  have bb := Blk.new w [.int .i64 R, .int .i64 C] 24
  have g0 : ∀ W, Keep [] (w.alloc (.cells #[.int .i64 R, .int .i64 C] 24)) W → W.cell? ⟨w.heap.size, 0, none⟩ = some (.int .i64 R) := fun W k => (bb.keep k (by simp)).cell 0
  have g1 : ∀ W, Keep [] (w.alloc (.cells #[.int .i64 R, .int .i64 C] 24)) W → W.cell? ⟨w.heap.size, 1, none⟩ = some (.int .i64 C) := fun W k => (bb.keep k (by simp)).cell 1
  clear bb
  have hv := c_valid R C
  by_cases h : vld R C = true
  · have hp := vld_pos h
    have r0 := Int.emod_nonneg a (by omega : R ≠ 0)
    have r1 := Int.emod_lt_of_pos a (by omega : 0 < R)
    have c0 := Int.emod_nonneg b (by omega : C ≠ 0)
    have c1 := Int.emod_lt_of_pos b (by omega : 0 < C)
    have hm : 0 ≤ a % R * C ∧ a % R * C ≤ 43 * 132 := by
      refine ⟨Int.mul_nonneg r0 (by omega), ?_⟩
      exact Int.le_trans (Int.mul_le_mul_of_nonneg_right (by omega : a % R ≤ 43) (by omega)) (by omega)
    have hd : att R C a b = a % R * C + b % C := by unfold att; rw [if_pos h]
    rw [hd]
    rw [h] at hv
    have i1 : IntKind.i64.wrap (a % R * C) = a % R * C := by rw [IntKind.wrap_i64];  omega
    have i2 : IntKind.i64.wrap (a % R * C + b % C) = a % R * C + b % C := by rw [IntKind.wrap_i64]; omega
    have w1' : wrap64 (a % R * C) = a % R * C := by unfold wrap64;  omega
    have w2' : wrap64 (a % R * C + b % C) = a % R * C + b % C := by unfold wrap64; omega
    obtain ⟨p1, p2, p3, p4, _⟩ := hp
    have hmods : ∀ W x y, (y = R ∨ y = C) → Calls Try.prog 143 #[.int .i64 x, .int .i64 y] W fun e w' => e = .returned (.int .i64 (x % y)) ∧ Below W.heap.size W w' := fun W x y h => c_rest x y W (by omega) (by omega)
    clear h hd hm r0 r1 c0 c1 p1 p2 p3 p4
    go_enter Try.func49, Try.ntmps49
    go_wp2_with (go_at_call 30; (with_reducible refine (hv _).mono ?_); rintro e w1 ⟨rfl, hb1⟩; have HB := Aside0.mk ((Keep.refl [] _).call hb1); clear hb1)
    have f0 : ∀ W, Keep [] w1 W → W.cell? ⟨w.heap.size, 0, none⟩ = some (.int .i64 R) := fun W k => g0 W (HB.out.trans k (by simp))
    have f1 : ∀ W, Keep [] w1 W → W.cell? ⟨w.heap.size, 1, none⟩ = some (.int .i64 C) := fun W k => g1 W (HB.out.trans k (by simp))
    clear g0 g1
    refine wp_quiet_all (K := fun W => Keep [] w1 W) (by kernel_rfl) (by kernel_rfl) (Keep.refl [] w1).drew ?_
    repeat (first
      | go_big_quiet_skip
      | (go_big_quiet_want; first
          | (go_big_quiet_op; first
              | go_big_quiet_on
              | (go_big_quiet_call ((intro hW; first
                  | exact Calls.mono (hmods _ _ _ (by first | exact .inl rfl | exact .inr rfl)) (fun e W' h => ⟨h.1, hW.call h.2⟩)))))
          | (apply quiet_of
             · (intro W hW
                go_simp
                with_reducible rfl)
             simp only [Act.put, List.setIfInBounds_toArray, List.set_cons_zero, List.set_cons_succ]
             go_big_quiet_on)))
    refine wpQuiet_nil ?_
    intro W2 k2
    clear f0 f1
    go_wp2
    go_ret
    exact ⟨rfl, ((k1.trans HB.out (by simp)).trans k2 (by simp)).below⟩
  · have h' : vld R C = false := by simpa using h
    have hc : att R C a b = 0 := by unfold att; rw [if_neg h]
    rw [hc]
    rw [h'] at hv
    clear hc h h'
    go_enter Try.func49, Try.ntmps49
    go_wp2_with (go_at_call 30; (with_reducible refine (hv _).mono ?_); rintro e w1 ⟨rfl, hb1⟩; have HB := Aside0.mk hb1)
    go_ret
    exact ⟨rfl, (k1.call HB.out).below⟩
set_option maxRecDepth 100000 in
set_option maxHeartbeats 1000000 in
theorem r_at : Calls Try.prog 50 #[sz R C, .int .i64 a, .int .i64 b] w fun e w' => e = .returned (.int .i64 (att R C a b)) ∧ Below w.heap.size w w' := by
  have k0 : Keep [] w w := Keep.refl _ _
  have k1 : Keep [] w (w.alloc (.cells #[.int .i64 R, .int .i64 C] 28)) := k0.alloc _
  have bb := Blk.new w [.int .i64 R, .int .i64 C] 28
  have g0 : ∀ W, Keep [] (w.alloc (.cells #[.int .i64 R, .int .i64 C] 28)) W → W.cell? ⟨w.heap.size, 0, none⟩ = some (.int .i64 R) := fun W k => (bb.keep k (by simp)).cell 0
  have g1 : ∀ W, Keep [] (w.alloc (.cells #[.int .i64 R, .int .i64 C] 28)) W → W.cell? ⟨w.heap.size, 1, none⟩ = some (.int .i64 C) := fun W k => (bb.keep k (by simp)).cell 1
  clear bb
  have hv := r_valid R C
  by_cases h : vld R C = true
  · have hp := vld_pos h
    have r0 := Int.emod_nonneg a (by omega : R ≠ 0)
    have r1 := Int.emod_lt_of_pos a (by omega : 0 < R)
    have c0 := Int.emod_nonneg b (by omega : C ≠ 0)
    have c1 := Int.emod_lt_of_pos b (by omega : 0 < C)
    have hm : 0 ≤ a % R * C ∧ a % R * C ≤ 43 * 132 := by
      refine ⟨Int.mul_nonneg r0 (by omega), ?_⟩
      exact Int.le_trans (Int.mul_le_mul_of_nonneg_right (by omega : a % R ≤ 43) (by omega)) (by omega)
    have hd : att R C a b = a % R * C + b % C := by unfold att; rw [if_pos h]
    rw [hd]
    rw [h] at hv
    have i1 : IntKind.i64.wrap (C * (a % R)) = a % R * C := by rw [IntKind.wrap_i64]; rw [Int.mul_comm C (a % R)]; omega
    have i2 : IntKind.i64.wrap (a % R * C + b % C) = a % R * C + b % C := by rw [IntKind.wrap_i64]; omega
    have w1' : wrap64 (C * (a % R)) = a % R * C := by unfold wrap64; rw [Int.mul_comm C (a % R)]; omega
    have w2' : wrap64 (a % R * C + b % C) = a % R * C + b % C := by unfold wrap64; omega
    obtain ⟨p1, p2, p3, p4, _⟩ := hp
    have hmods : ∀ W x y, (y = R ∨ y = C) → Calls Try.prog 146 #[.int .i64 x, .int .i64 y] W fun e w' => e = .returned (.int .i64 (x % y)) ∧ Below W.heap.size W w' := fun W x y h => r_mod x y W (by omega) (by omega)
    clear h hd hm r0 r1 c0 c1 p1 p2 p3 p4
    go_enter Try.func50, Try.ntmps50
    go_wp2_with (go_at_call 46; (with_reducible refine (hv _).mono ?_); rintro e w1 ⟨rfl, hb1⟩; have HB := Aside0.mk ((Keep.refl [] _).call hb1); clear hb1)
    have f0 : ∀ W, Keep [] w1 W → W.cell? ⟨w.heap.size, 0, none⟩ = some (.int .i64 R) := fun W k => g0 W (HB.out.trans k (by simp))
    have f1 : ∀ W, Keep [] w1 W → W.cell? ⟨w.heap.size, 1, none⟩ = some (.int .i64 C) := fun W k => g1 W (HB.out.trans k (by simp))
    clear g0 g1
    refine wp_quiet_all (K := fun W => Keep [] w1 W) (by kernel_rfl) (by kernel_rfl) (Keep.refl [] w1).drew ?_
    repeat (first
      | go_big_quiet_skip
      | (go_big_quiet_want; first
          | (go_big_quiet_op; first
              | go_big_quiet_on
              | (go_big_quiet_call ((intro hW; first
                  | exact Calls.mono (hmods _ _ _ (by first | exact .inl rfl | exact .inr rfl)) (fun e W' h => ⟨h.1, hW.call h.2⟩)))))
          | (apply quiet_of
             · (intro W hW
                go_simp
                with_reducible rfl)
             simp only [Act.put, List.setIfInBounds_toArray, List.set_cons_zero, List.set_cons_succ]
             go_big_quiet_on)))
    refine wpQuiet_nil ?_
    intro W2 k2
    clear f0 f1
    go_wp2
    go_ret
    exact ⟨rfl, ((k1.trans HB.out (by simp)).trans k2 (by simp)).below⟩
  · have h' : vld R C = false := by simpa using h
    have hc : att R C a b = 0 := by unfold att; rw [if_neg h]
    rw [hc]
    rw [h'] at hv
    clear hc h h'
    go_enter Try.func50, Try.ntmps50
    go_wp2_with (go_at_call 46; (with_reducible refine (hv _).mono ?_); rintro e w1 ⟨rfl, hb1⟩; have HB := Aside0.mk hb1)
    go_ret
    exact ⟨rfl, (k1.call HB.out).below⟩
set_option maxRecDepth 100000 in
theorem c_line : Calls Try.prog 52 #[sz R C, .int .i64 n] w fun e w' => e = .returned (.int .i64 (lin R C n)) ∧ Below w.heap.size w w' := by
  have k0 : Keep [] w w := Keep.refl _ _
  have k1 : Keep [] w (w.alloc (.cells #[.int .i64 R, .int .i64 C] 24)) := k0.alloc _
  have bb := Blk.new w [.int .i64 R, .int .i64 C] 24
  have g0 : ∀ W, Keep [] (w.alloc (.cells #[.int .i64 R, .int .i64 C] 24)) W → W.cell? ⟨w.heap.size, 0, none⟩ = some (.int .i64 R) := fun W k => (bb.keep k (by simp)).cell 0
  have g1 : ∀ W, Keep [] (w.alloc (.cells #[.int .i64 R, .int .i64 C] 24)) W → W.cell? ⟨w.heap.size, 1, none⟩ = some (.int .i64 C) := fun W k => (bb.keep k (by simp)).cell 1
  clear bb
  have hro := c_row R C n
  have hrb : 0 ≤ row R C n ∧ row R C n ≤ 43 := by
    unfold row
    by_cases h : vld R C = true
    · have hp := vld_pos h
      have hi := in_place R C n h
      rw [if_pos h]; omega
    · rw [if_neg h]; omega
  have hl : lin R C n = att R C (row R C n + 1) 0 := by
    unfold lin att row
    by_cases h : vld R C = true
    · rw [if_pos h, if_pos h, if_pos h]; simp
    · rw [if_neg h, if_neg h]
  have hat := c_at R C (row R C n + 1) 0
  rw [hl]
  generalize row R C n = y at *
  generalize att R C (y + 1) 0 = z at *
  have i1 : IntKind.i64.wrap (y + 1) = y + 1 := by rw [IntKind.wrap_i64]; omega
  have w1' : wrap64 (y + 1) = y + 1 := by unfold wrap64; omega
  clear hl hrb
  obtain ⟨w1, hw1⟩ : ∃ w1, w.alloc (.cells #[.int .i64 R, .int .i64 C] 24) = w1 := ⟨_, rfl⟩
  rw [hw1] at g0 g1 k1
  go_enter Try.func52, Try.ntmps52
  go_wp2
  clear hw1
  refine wp_quiet_all (K := fun W => Keep [] w1 W) (by kernel_rfl) (by kernel_rfl) (Keep.refl [] w1).drew ?_
  repeat (first
    | go_big_quiet_skip
    | (go_big_quiet_want; first
        | (go_big_quiet_op; first
            | go_big_quiet_on
            | (go_big_quiet_call ((intro hW; first
                | exact Calls.mono (hro _) (fun e W' h => ⟨h.1, hW.call h.2⟩)
                | exact Calls.mono (hat _) (fun e W' h => ⟨h.1, hW.call h.2⟩)))))
        | (apply quiet_of
           · (intro W hW
              go_simp
              with_reducible rfl)
           simp only [Act.put, List.setIfInBounds_toArray, List.set_cons_zero, List.set_cons_succ]
           go_big_quiet_on)))
  refine wpQuiet_nil ?_
  intro W2 k2
  clear g0 g1
  go_wp2
  go_ret
  exact ⟨rfl, (k1.trans k2 (by simp)).below⟩
set_option maxRecDepth 100000 in
set_option maxHeartbeats 2000000 in
theorem c_move : Calls Try.prog 31 #[sz R C, .int .i64 n, .int .i64 a, .int .i64 b] w fun e w' => e = .returned (.int .i64 (mov R C n a b)) ∧ Below w.heap.size w w' := by
  have k0 : Keep [] w w := Keep.refl _ _
  have k1 : Keep [] w (w.alloc (.cells #[.int .i64 R, .int .i64 C] 24)) := k0.alloc _
  have bb := Blk.new w [.int .i64 R, .int .i64 C] 24
  have g0 : ∀ W, Keep [] (w.alloc (.cells #[.int .i64 R, .int .i64 C] 24)) W → W.cell? ⟨w.heap.size, 0, none⟩ = some (.int .i64 R) := fun W k => (bb.keep k (by simp)).cell 0
  have g1 : ∀ W, Keep [] (w.alloc (.cells #[.int .i64 R, .int .i64 C] 24)) W → W.cell? ⟨w.heap.size, 1, none⟩ = some (.int .i64 C) := fun W k => (bb.keep k (by simp)).cell 1
  clear bb
  have hv := c_valid R C
  by_cases h : vld R C = true
  · have hp := vld_pos h
    have hn := in_place R C n h
    have hb := in_place R C b h
    have hm := in_place R C (n + b) h
    have a0 := Int.emod_nonneg a (by omega : R ≠ 0)
    have a1 := Int.emod_lt_of_pos a (by omega : 0 < R)
    have e : (n % (R * C) + b % (R * C)) % (R * C) = (n + b) % (R * C) := by rw [← Int.add_emod]
    have hw1 : wrp R C n = n % (R * C) := by unfold wrp; rw [if_pos h]
    have hw2 : wrp R C b = b % (R * C) := by unfold wrp; rw [if_pos h]
    rw [← hw1, ← hw2] at e
    have i1 : IntKind.i64.wrap (wrp R C n + wrp R C b) = wrp R C n + wrp R C b := by rw [IntKind.wrap_i64]; omega
    have w1' : wrap64 (wrp R C n + wrp R C b) = wrp R C n + wrp R C b := by unfold wrap64; omega
    obtain ⟨p1, p2, p3, p4, p5, p6, p7⟩ := id hp
    have hX : wrp R C (wrp R C n + wrp R C b) = (n + b) % (R * C) := by rw [show wrp R C (wrp R C n + wrp R C b) = (wrp R C n + wrp R C b) % (R * C) by unfold wrp; rw [if_pos h], e]
    have hrow : row R C (wrp R C (wrp R C n + wrp R C b)) = (n + b) % (R * C) / C := by unfold row; rw [if_pos h, hX, Int.emod_emod]
    have hcol : col R C (wrp R C (wrp R C n + wrp R C b)) = (n + b) % (R * C) % C := by unfold col; rw [if_pos h, hX, Int.emod_emod]
    have hd : mov R C n a b = att R C (row R C (wrp R C (wrp R C n + wrp R C b)) + a % R) (col R C (wrp R C (wrp R C n + wrp R C b))) := by
      rw [hrow, hcol]; unfold mov att; rw [if_pos h, if_pos h, Int.emod_emod]
    rw [hd]
    rw [h] at hv
    have i2 : IntKind.i64.wrap (row R C (wrp R C (wrp R C n + wrp R C b)) + a % R) = row R C (wrp R C (wrp R C n + wrp R C b)) + a % R := by rw [hrow, IntKind.wrap_i64]; omega
    have w2' : wrap64 (row R C (wrp R C (wrp R C n + wrp R C b)) + a % R) = row R C (wrp R C (wrp R C n + wrp R C b)) + a % R := by rw [hrow]; unfold wrap64; omega
    have hre := fun W => c_rest a R W (by omega) (by omega)
    clear hp h hd hn hb hm a0 a1 e hw1 hw2 hX hrow hcol p1 p2 p3 p4 p5 p6 p7
    go_enter Try.func31, Try.ntmps31
    go_wp2_with (go_at_call 30; (with_reducible refine (hv _).mono ?_); rintro e w1 ⟨rfl, hb1⟩; have HB := Aside0.mk ((Keep.refl [] _).call hb1); clear hb1)
    have f0 : ∀ W, Keep [] w1 W → W.cell? ⟨w.heap.size, 0, none⟩ = some (.int .i64 R) := fun W k => g0 W (HB.out.trans k (by simp))
    have f1 : ∀ W, Keep [] w1 W → W.cell? ⟨w.heap.size, 1, none⟩ = some (.int .i64 C) := fun W k => g1 W (HB.out.trans k (by simp))
    clear g0 g1
    refine wp_quiet_all (K := fun W => Keep [] w1 W) (by kernel_rfl) (by kernel_rfl) (Keep.refl [] w1).drew ?_
    repeat (first
      | go_big_quiet_skip
      | (go_big_quiet_want; first
          | (go_big_quiet_op; first
              | go_big_quiet_on
              | (go_big_quiet_call ((intro hW; first
                  | exact Calls.mono (c_wrap _ _ _ _) (fun e W' h => ⟨h.1, hW.call h.2⟩)))))
          | (apply quiet_of
             · (intro W hW
                go_simp
                with_reducible rfl)
             simp only [Act.put, List.setIfInBounds_toArray, List.set_cons_zero, List.set_cons_succ]
             go_big_quiet_on)))
    refine wpQuiet_nil ?_
    intro W2 k2
    have h0 : ∀ W, Keep [] W2 W → W.cell? ⟨w.heap.size, 0, none⟩ = some (.int .i64 R) := fun W k => f0 W (k2.trans k (by simp))
    have h1 : ∀ W, Keep [] W2 W → W.cell? ⟨w.heap.size, 1, none⟩ = some (.int .i64 C) := fun W k => f1 W (k2.trans k (by simp))
    have K2 := Aside0.mk k2
    clear f0 f1 k2
    go_wp2
    refine wp_quiet_all (K := fun W => Keep [] W2 W) (by kernel_rfl) (by kernel_rfl) (Keep.refl [] W2).drew ?_
    repeat (first
      | go_big_quiet_skip
      | (go_big_quiet_want; first
          | (go_big_quiet_op; first
              | go_big_quiet_on
              | (go_big_quiet_call ((intro hW; first
                  | exact Calls.mono (c_row _ _ _ _) (fun e W' h => ⟨h.1, hW.call h.2⟩)
                  | exact Calls.mono (c_col _ _ _ _) (fun e W' h => ⟨h.1, hW.call h.2⟩)
                  | exact Calls.mono (hre _) (fun e W' h => ⟨h.1, hW.call h.2⟩)
                  | exact Calls.mono (c_at _ _ _ _ _) (fun e W' h => ⟨h.1, hW.call h.2⟩)))))
          | (apply quiet_of
             · (intro W hW
                go_simp
                with_reducible rfl)
             simp only [Act.put, List.setIfInBounds_toArray, List.set_cons_zero, List.set_cons_succ]
             go_big_quiet_on)))
    refine wpQuiet_nil ?_
    intro W3 k3
    clear h0 h1
    go_wp2
    go_ret
    exact ⟨rfl, (((k1.trans HB.out (by simp)).trans K2.out (by simp)).trans k3 (by simp)).below⟩
  · have h' : vld R C = false := by simpa using h
    have hc : mov R C n a b = 0 := by unfold mov; rw [if_neg h]
    rw [hc]
    rw [h'] at hv
    clear hc h h'
    go_enter Try.func31, Try.ntmps31
    go_wp2_with (go_at_call 30; (with_reducible refine (hv _).mono ?_); rintro e w1 ⟨rfl, hb1⟩; have HB := Aside0.mk hb1)
    go_ret
    exact ⟨rfl, (k1.call HB.out).below⟩
set_option maxRecDepth 100000 in
set_option maxHeartbeats 2000000 in
theorem r_move : Calls Try.prog 51 #[sz R C, .int .i64 n, .int .i64 a, .int .i64 b] w fun e w' => e = .returned (.int .i64 (mov R C n a b)) ∧ Below w.heap.size w w' := by
  have k0 : Keep [] w w := Keep.refl _ _
  have k1 : Keep [] w (w.alloc (.cells #[.int .i64 R, .int .i64 C] 28)) := k0.alloc _
  have bb := Blk.new w [.int .i64 R, .int .i64 C] 28
  have g0 : ∀ W, Keep [] (w.alloc (.cells #[.int .i64 R, .int .i64 C] 28)) W → W.cell? ⟨w.heap.size, 0, none⟩ = some (.int .i64 R) := fun W k => (bb.keep k (by simp)).cell 0
  have g1 : ∀ W, Keep [] (w.alloc (.cells #[.int .i64 R, .int .i64 C] 28)) W → W.cell? ⟨w.heap.size, 1, none⟩ = some (.int .i64 C) := fun W k => (bb.keep k (by simp)).cell 1
  clear bb
  have hv := r_valid R C
  by_cases h : vld R C = true
  · have hp := vld_pos h
    have hn := in_place R C n h
    have hb := in_place R C b h
    have hm := in_place R C (n + b) h
    have a0 := Int.emod_nonneg a (by omega : R ≠ 0)
    have a1 := Int.emod_lt_of_pos a (by omega : 0 < R)
    have e : (n % (R * C) + b % (R * C)) % (R * C) = (n + b) % (R * C) := by rw [← Int.add_emod]
    have hw1 : wrp R C n = n % (R * C) := by unfold wrp; rw [if_pos h]
    have hw2 : wrp R C b = b % (R * C) := by unfold wrp; rw [if_pos h]
    rw [← hw1, ← hw2] at e
    have i1 : IntKind.i64.wrap (wrp R C n + wrp R C b) = wrp R C n + wrp R C b := by rw [IntKind.wrap_i64]; omega
    have w1' : wrap64 (wrp R C n + wrp R C b) = wrp R C n + wrp R C b := by unfold wrap64; omega
    obtain ⟨p1, p2, p3, p4, p5, p6, p7⟩ := id hp
    have hc : cel R C = R * C := by unfold cel; rw [if_pos h]
    have hX : (wrp R C n + wrp R C b) % cel R C = (n + b) % (R * C) := by rw [hc, e]
    have hd : mov R C n a b = att R C ((wrp R C n + wrp R C b) % cel R C / C + a % R) ((wrp R C n + wrp R C b) % cel R C % C) := by
      rw [hX]; unfold mov att; rw [if_pos h, if_pos h, Int.emod_emod]
    have hxx : 0 ≤ (wrp R C n + wrp R C b) % cel R C ∧ (wrp R C n + wrp R C b) % cel R C / C + a % R ≤ 86 ∧ 0 ≤ (wrp R C n + wrp R C b) % cel R C / C := by rw [hX]; omega
    rw [hd]
    rw [h] at hv
    have hre := fun W => r_mod (wrp R C n + wrp R C b) (cel R C) W (by omega) (by omega)
    have hr2 := fun W => r_mod a R W (by omega) (by omega)
    have hcc := r_cells R C
    have c0 : ¬ C = 0 := by omega
    have c1 : (C == 0) = false := by simpa using c0
    have c2 : 0 < C := by omega
    clear hp h hd hn hb hm e hw1 hw2 hX hc p1 p2 p4 p5 p6 p7
    have A01 := Aside0.mk (And.intro a0 (And.intro a1 p3))
    clear a0 a1 p3
    go_enter Try.func51, Try.ntmps51
    go_wp2_with (go_at_call 46; (with_reducible refine (hv _).mono ?_); rintro e w1 ⟨rfl, hb1⟩; have HB := Aside0.mk ((Keep.refl [] _).call hb1); clear hb1)
    have f0 : ∀ W, Keep [] w1 W → W.cell? ⟨w.heap.size, 0, none⟩ = some (.int .i64 R) := fun W k => g0 W (HB.out.trans k (by simp))
    have f1 : ∀ W, Keep [] w1 W → W.cell? ⟨w.heap.size, 1, none⟩ = some (.int .i64 C) := fun W k => g1 W (HB.out.trans k (by simp))
    clear g0 g1
    refine wp_quiet_all (K := fun W => Keep [] w1 W) (by kernel_rfl) (by kernel_rfl) (Keep.refl [] w1).drew ?_
    repeat (first
      | go_big_quiet_skip
      | (go_big_quiet_want; first
          | (go_big_quiet_op; first
              | go_big_quiet_on
              | (go_big_quiet_call ((intro hW; first
                  | exact Calls.mono (r_wrap _ _ _ _) (fun e W' h => ⟨h.1, hW.call h.2⟩)
                  | exact Calls.mono (hcc _) (fun e W' h => ⟨h.1, hW.call h.2⟩)
                  | exact Calls.mono (hre _) (fun e W' h => ⟨h.1, hW.call h.2⟩)))))
          | (apply quiet_of
             · (intro W hW
                go_simp
                with_reducible rfl)
             simp only [Act.put, List.setIfInBounds_toArray, List.set_cons_zero, List.set_cons_succ]
             go_big_quiet_on)))
    refine wpQuiet_nil ?_
    intro W2 k2
    have h0 : ∀ W, Keep [] W2 W → W.cell? ⟨w.heap.size, 0, none⟩ = some (.int .i64 R) := fun W k => f0 W (k2.trans k (by simp))
    have h1 : ∀ W, Keep [] W2 W → W.cell? ⟨w.heap.size, 1, none⟩ = some (.int .i64 C) := fun W k => f1 W (k2.trans k (by simp))
    have K2 := Aside0.mk k2
    clear f0 f1 k2
    clear hre hcc i1 w1'
    generalize hx3 : (wrp R C n + wrp R C b) % cel R C = x3 at *
    have HX3 := Aside0.mk hx3
    obtain ⟨x30, x31, x32⟩ := hxx
    have hat := r_at R C (x3 / C + a % R) (x3 % C)
    generalize hz : att R C (x3 / C + a % R) (x3 % C) = z at *
    have HZ := Aside0.mk hz
    clear hz hx3
    have d1 : Int.tdiv x3 C = x3 / C := Int.tdiv_eq_ediv_of_nonneg x30
    have d2 : Int.tmod x3 C = x3 % C := Int.tmod_eq_emod_of_nonneg x30
    have w3' : wrap64 (x3 / C) = x3 / C := by have := A01.out; unfold wrap64; omega
    have i3 : IntKind.i64.wrap (x3 / C) = x3 / C := by have := A01.out; rw [IntKind.wrap_i64]; omega
    have i2 : IntKind.i64.wrap (x3 / C + a % R) = x3 / C + a % R := by have := A01.out; rw [IntKind.wrap_i64]; omega
    have w2' : wrap64 (x3 / C + a % R) = x3 / C + a % R := by have := A01.out; unfold wrap64; omega
    clear x31 x32
    go_wp2
    refine wp_quiet_all (K := fun W => Keep [] W2 W) (by kernel_rfl) (by kernel_rfl) (Keep.refl [] W2).drew ?_
    repeat (first
      | go_big_quiet_skip
      | (go_big_quiet_want; first
          | (go_big_quiet_op; first
              | go_big_quiet_on
              | (go_big_quiet_call ((intro hW; first
                  | exact Calls.mono (hr2 _) (fun e W' h => ⟨h.1, hW.call h.2⟩)
                  | exact Calls.mono (hat _) (fun e W' h => ⟨h.1, hW.call h.2⟩)))))
          | (apply quiet_of
             · (intro W hW
                go_simp
                with_reducible rfl)
             simp only [Act.put, List.setIfInBounds_toArray, List.set_cons_zero, List.set_cons_succ]
             go_big_quiet_on)))
    refine wpQuiet_nil ?_
    intro W3 k3
    clear h0 h1
    go_wp2
    go_ret
    exact ⟨by rw [HX3.out, HZ.out]; rfl, (((k1.trans HB.out (by simp)).trans K2.out (by simp)).trans k3 (by simp)).below⟩
  · have h' : vld R C = false := by simpa using h
    have hc : mov R C n a b = 0 := by unfold mov; rw [if_neg h]
    rw [hc]
    rw [h'] at hv
    clear hc h h'
    go_enter Try.func51, Try.ntmps51
    go_wp2_with (go_at_call 46; (with_reducible refine (hv _).mono ?_); rintro e w1 ⟨rfl, hb1⟩; have HB := Aside0.mk hb1)
    go_ret
    exact ⟨rfl, (k1.call HB.out).below⟩
theorem wrp_in : 0 ≤ wrp R C n ∧ wrp R C n ≤ 3564 := by
  unfold wrp
  by_cases h : vld R C = true
  · have hp := vld_pos h
    have hi := in_place R C n h
    rw [if_pos h]; omega
  · rw [if_neg h]; omega
theorem len_eq : len R C a b = if 0 < wrp R C (wrp R C b - wrp R C a) then wrp R C (wrp R C b - wrp R C a) else cel R C := by
  unfold len wrp cel
  by_cases h : vld R C = true
  · have hm := in_place R C (b - a) h
    simp only [h, if_true]
    rw [← Int.sub_emod]
    by_cases hz : (b - a) % (R * C) = 0
    · rw [if_pos hz, if_neg (by omega)]
    · rw [if_neg hz, if_pos (by omega)]
  · simp [h]
set_option maxRecDepth 100000 in
set_option maxHeartbeats 1000000 in
theorem c_length : Calls Try.prog 81 #[sz R C, .int .i64 a, .int .i64 b] w fun e w' => e = .returned (.int .i64 (len R C a b)) ∧ Below w.heap.size w w' := by
  have k0 : Keep [] w w := Keep.refl _ _
  have k1 : Keep [] w (w.alloc (.cells #[.int .i64 R, .int .i64 C] 24)) := k0.alloc _
  have bb := Blk.new w [.int .i64 R, .int .i64 C] 24
  have g0 : ∀ W, Keep [] (w.alloc (.cells #[.int .i64 R, .int .i64 C] 24)) W → W.cell? ⟨w.heap.size, 0, none⟩ = some (.int .i64 R) := fun W k => (bb.keep k (by simp)).cell 0
  have g1 : ∀ W, Keep [] (w.alloc (.cells #[.int .i64 R, .int .i64 C] 24)) W → W.cell? ⟨w.heap.size, 1, none⟩ = some (.int .i64 C) := fun W k => (bb.keep k (by simp)).cell 1
  clear bb
  have hl := len_eq R C a b
  have h1 := wrp_in R C a
  have h2 := wrp_in R C b
  have h3 := wrp_in R C (wrp R C b - wrp R C a)
  have i1 : IntKind.i64.wrap (wrp R C b - wrp R C a) = wrp R C b - wrp R C a := by rw [IntKind.wrap_i64]; omega
  have w1' : wrap64 (wrp R C b - wrp R C a) = wrp R C b - wrp R C a := by unfold wrap64; omega
  have HL := Aside0.mk hl
  have hce := c_cells R C
  obtain ⟨w1, hw1⟩ : ∃ w1, w.alloc (.cells #[.int .i64 R, .int .i64 C] 24) = w1 := ⟨_, rfl⟩
  rw [hw1] at g0 g1 k1
  clear hl h1 h2 h3
  go_enter Try.func81, Try.ntmps81
  go_wp2
  clear hw1
  refine wp_quiet_all (K := fun W => Keep [] w1 W) (by kernel_rfl) (by kernel_rfl) (Keep.refl [] w1).drew ?_
  repeat (first
    | go_big_quiet_skip
    | (go_big_quiet_want; first
        | (go_big_quiet_op; first
            | go_big_quiet_on
            | (go_big_quiet_call ((intro hW; first
                | exact Calls.mono (c_wrap _ _ _ _) (fun e W' h => ⟨h.1, hW.call h.2⟩)))))
        | (apply quiet_of
           · (intro W hW
              go_simp
              with_reducible rfl)
           simp only [Act.put, List.setIfInBounds_toArray, List.set_cons_zero, List.set_cons_succ]
           go_big_quiet_on)))
  refine wpQuiet_nil ?_
  intro W2 k2
  have e0 := g0 _ k2
  have e1 := g1 _ k2
  have K2 := Aside0.mk (k1.trans k2 (by simp))
  clear g0 g1 i1 w1' k2 k1
  generalize hX : wrp R C (wrp R C b - wrp R C a) = x at *
  have HX := Aside0.mk hX
  clear hX
  by_cases hx : 0 < x
  · have HP := Aside0.mk hx
    go_wp2
    go_ret
    exact ⟨by rw [HL.out, if_pos HP.out]; rfl, K2.out.below⟩
  · have HP := Aside0.mk hx
    have hxb : decide (0 < x) = false := decide_eq_false hx
    clear hx
    go_wp2_with (go_at_call 33; (with_reducible refine (hce _).mono ?_); rintro e w3 ⟨rfl, hb3⟩)
    go_ret
    exact ⟨by rw [HL.out, if_neg (by have := HP.out; omega)]; rfl, (K2.out.call hb3).below⟩
end

def addr_Model.f (a0 : Int) : Option (Int × Int × Int) := if a0 = 2 then (some (24, 80, 0)) else (if a0 = 3 then (some (32, 80, 0)) else (if a0 = 4 then (some (43, 80, 0)) else (if a0 = 5 then (some (27, 132, 0)) else (some (0, 0, 5)))))
def vitrineref04_Model.f (a0 : Int) : Option (Int × Int × Bool) := if a0 = 2 then (some (24, 80, true)) else (if a0 = 3 then (some (32, 80, true)) else (if a0 = 4 then (some (43, 80, true)) else (if a0 = 5 then (some (27, 132, true)) else (some (0, 0, false)))))

set_option maxRecDepth 100000 in
theorem model28_2 (w : World) : Calls Try.prog 28 #[.int .i64 2] w fun e w' => e = .returned (.tuple #[.agg #[.int .i64 24, .int .i64 80], .int .i64 0]) ∧ Below w.heap.size w w' := by
  go_enter Try.func28, Try.ntmps28
  go_wp2
  refine bodyPost_ret (v := .tuple #[.agg #[.int .i64 24, .int .i64 80], .int .i64 0]) ?_ rfl ⟨rfl, ?_⟩
  · simp only [results, Try.results28]
    go_simp
  · first | exact (Below.refl _ w).alloc (Nat.le_refl _) _ | exact (((Keep.refl [] w).alloc _).alloc _).below

set_option maxRecDepth 100000 in
theorem model29_2 (w : World) : Calls Try.prog 29 #[.int .i64 2] w fun e w' => e = .returned (.tuple #[.agg #[.int .i64 24, .int .i64 80], .bool true]) ∧ Below w.heap.size w w' := by
  go_enter Try.func29, Try.ntmps29
  go_wp2
  refine bodyPost_ret (v := .tuple #[.agg #[.int .i64 24, .int .i64 80], .bool true]) ?_ rfl ⟨rfl, ?_⟩
  · simp only [results, Try.results29]
    go_simp
  · first | exact (Below.refl _ w).alloc (Nat.le_refl _) _ | exact (((Keep.refl [] w).alloc _).alloc _).below

set_option maxRecDepth 100000 in
theorem model28_3 (w : World) : Calls Try.prog 28 #[.int .i64 3] w fun e w' => e = .returned (.tuple #[.agg #[.int .i64 32, .int .i64 80], .int .i64 0]) ∧ Below w.heap.size w w' := by
  go_enter Try.func28, Try.ntmps28
  go_wp2
  refine bodyPost_ret (v := .tuple #[.agg #[.int .i64 32, .int .i64 80], .int .i64 0]) ?_ rfl ⟨rfl, ?_⟩
  · simp only [results, Try.results28]
    go_simp
  · first | exact (Below.refl _ w).alloc (Nat.le_refl _) _ | exact (((Keep.refl [] w).alloc _).alloc _).below

set_option maxRecDepth 100000 in
theorem model29_3 (w : World) : Calls Try.prog 29 #[.int .i64 3] w fun e w' => e = .returned (.tuple #[.agg #[.int .i64 32, .int .i64 80], .bool true]) ∧ Below w.heap.size w w' := by
  go_enter Try.func29, Try.ntmps29
  go_wp2
  refine bodyPost_ret (v := .tuple #[.agg #[.int .i64 32, .int .i64 80], .bool true]) ?_ rfl ⟨rfl, ?_⟩
  · simp only [results, Try.results29]
    go_simp
  · first | exact (Below.refl _ w).alloc (Nat.le_refl _) _ | exact (((Keep.refl [] w).alloc _).alloc _).below

set_option maxRecDepth 100000 in
theorem model28_4 (w : World) : Calls Try.prog 28 #[.int .i64 4] w fun e w' => e = .returned (.tuple #[.agg #[.int .i64 43, .int .i64 80], .int .i64 0]) ∧ Below w.heap.size w w' := by
  go_enter Try.func28, Try.ntmps28
  go_wp2
  refine bodyPost_ret (v := .tuple #[.agg #[.int .i64 43, .int .i64 80], .int .i64 0]) ?_ rfl ⟨rfl, ?_⟩
  · simp only [results, Try.results28]
    go_simp
  · first | exact (Below.refl _ w).alloc (Nat.le_refl _) _ | exact (((Keep.refl [] w).alloc _).alloc _).below

set_option maxRecDepth 100000 in
theorem model29_4 (w : World) : Calls Try.prog 29 #[.int .i64 4] w fun e w' => e = .returned (.tuple #[.agg #[.int .i64 43, .int .i64 80], .bool true]) ∧ Below w.heap.size w w' := by
  go_enter Try.func29, Try.ntmps29
  go_wp2
  refine bodyPost_ret (v := .tuple #[.agg #[.int .i64 43, .int .i64 80], .bool true]) ?_ rfl ⟨rfl, ?_⟩
  · simp only [results, Try.results29]
    go_simp
  · first | exact (Below.refl _ w).alloc (Nat.le_refl _) _ | exact (((Keep.refl [] w).alloc _).alloc _).below

set_option maxRecDepth 100000 in
theorem model28_5 (w : World) : Calls Try.prog 28 #[.int .i64 5] w fun e w' => e = .returned (.tuple #[.agg #[.int .i64 27, .int .i64 132], .int .i64 0]) ∧ Below w.heap.size w w' := by
  go_enter Try.func28, Try.ntmps28
  go_wp2
  refine bodyPost_ret (v := .tuple #[.agg #[.int .i64 27, .int .i64 132], .int .i64 0]) ?_ rfl ⟨rfl, ?_⟩
  · simp only [results, Try.results28]
    go_simp
  · first | exact (Below.refl _ w).alloc (Nat.le_refl _) _ | exact (((Keep.refl [] w).alloc _).alloc _).below

set_option maxRecDepth 100000 in
theorem model29_5 (w : World) : Calls Try.prog 29 #[.int .i64 5] w fun e w' => e = .returned (.tuple #[.agg #[.int .i64 27, .int .i64 132], .bool true]) ∧ Below w.heap.size w w' := by
  go_enter Try.func29, Try.ntmps29
  go_wp2
  refine bodyPost_ret (v := .tuple #[.agg #[.int .i64 27, .int .i64 132], .bool true]) ?_ rfl ⟨rfl, ?_⟩
  · simp only [results, Try.results29]
    go_simp
  · first | exact (Below.refl _ w).alloc (Nat.le_refl _) _ | exact (((Keep.refl [] w).alloc _).alloc _).below

set_option maxRecDepth 100000 in
theorem model28_0 (m : Int) (hm : ¬ (2 ≤ m ∧ m ≤ 5)) (w : World) : Calls Try.prog 28 #[.int .i64 m] w fun e w' => e = .returned (.tuple #[.agg #[.int .i64 0, .int .i64 0], .int .i64 5]) ∧ Below w.heap.size w w' := by
  have h2 : (m == 2) = false := by have : ¬ m = 2 := by omega
                                   simpa using this
  have h3 : (m == 3) = false := by have : ¬ m = 3 := by omega
                                   simpa using this
  have h4 : (m == 4) = false := by have : ¬ m = 4 := by omega
                                   simpa using this
  have h5 : (m == 5) = false := by have : ¬ m = 5 := by omega
                                   simpa using this
  clear hm
  go_enter Try.func28, Try.ntmps28
  go_wp2
  refine bodyPost_ret (v := .tuple #[.agg #[.int .i64 0, .int .i64 0], .int .i64 5]) ?_ rfl ⟨rfl, ?_⟩
  · simp only [results, Try.results28]
    go_simp
  · exact (Below.refl _ w).alloc (Nat.le_refl _) _

set_option maxRecDepth 100000 in
theorem model29_0 (m : Int) (hm : ¬ (2 ≤ m ∧ m ≤ 5)) (w : World) : Calls Try.prog 29 #[.int .i64 m] w fun e w' => e = .returned (.tuple #[.agg #[.int .i64 0, .int .i64 0], .bool false]) ∧ Below w.heap.size w w' := by
  have h2 : (m == 2) = false := by have : ¬ m = 2 := by omega
                                   simpa using this
  have h3 : (m == 3) = false := by have : ¬ m = 3 := by omega
                                   simpa using this
  have h4 : (m == 4) = false := by have : ¬ m = 4 := by omega
                                   simpa using this
  have h5 : (m == 5) = false := by have : ¬ m = 5 := by omega
                                   simpa using this
  by_cases hl : m < 2
  · have hlb : decide (m < 2) = true := decide_eq_true hl
    clear hm
    go_enter Try.func29, Try.ntmps29
    go_wp2
    refine bodyPost_ret (v := .tuple #[.agg #[.int .i64 0, .int .i64 0], .bool false]) ?_ rfl ⟨rfl, ?_⟩
    · simp only [results, Try.results29]
      go_simp
    · exact (Below.refl _ w).alloc (Nat.le_refl _) _
  · have hlb : decide (m < 2) = false := decide_eq_false hl
    have hgb : decide (5 < m) = true := decide_eq_true (by omega)
    clear hm
    go_enter Try.func29, Try.ntmps29
    go_wp2
    refine bodyPost_ret (v := .tuple #[.agg #[.int .i64 0, .int .i64 0], .bool false]) ?_ rfl ⟨rfl, ?_⟩
    · simp only [results, Try.results29]
      go_simp
    · exact (Below.refl _ w).alloc (Nat.le_refl _) _

theorem addr_Model.calls (a0 : Int) (r1 : Int) (r2 : Int) (r3 : Int) (w : World) (h : addr_Model.f a0 = some (r1, r2, r3)) :
    Calls Try.prog 28 #[.int .i64 a0] w fun e w' => e = .returned (.tuple #[.agg #[.int .i64 r1, .int .i64 r2], .int .i64 r3]) ∧ Below w.heap.size w w' := by
  unfold addr_Model.f at h
  split at h
  · rename_i e; subst e; simp only [Option.some.injEq, Prod.mk.injEq] at h; obtain ⟨rfl, rfl, rfl⟩ := h; exact model28_2 w
  split at h
  · rename_i e; subst e; simp only [Option.some.injEq, Prod.mk.injEq] at h; obtain ⟨rfl, rfl, rfl⟩ := h; exact model28_3 w
  split at h
  · rename_i e; subst e; simp only [Option.some.injEq, Prod.mk.injEq] at h; obtain ⟨rfl, rfl, rfl⟩ := h; exact model28_4 w
  split at h
  · rename_i e; subst e; simp only [Option.some.injEq, Prod.mk.injEq] at h; obtain ⟨rfl, rfl, rfl⟩ := h; exact model28_5 w
  · simp only [Option.some.injEq, Prod.mk.injEq] at h; obtain ⟨rfl, rfl, rfl⟩ := h; exact model28_0 a0 (by omega) w
theorem vitrineref04_Model.calls (a0 : Int) (r1 : Int) (r2 : Int) (r3 : Bool) (w : World) (h : vitrineref04_Model.f a0 = some (r1, r2, r3)) :
    Calls Try.prog 29 #[.int .i64 a0] w fun e w' => e = .returned (.tuple #[.agg #[.int .i64 r1, .int .i64 r2], .bool r3]) ∧ Below w.heap.size w w' := by
  unfold vitrineref04_Model.f at h
  split at h
  · rename_i e; subst e; simp only [Option.some.injEq, Prod.mk.injEq] at h; obtain ⟨rfl, rfl, rfl⟩ := h; exact model29_2 w
  split at h
  · rename_i e; subst e; simp only [Option.some.injEq, Prod.mk.injEq] at h; obtain ⟨rfl, rfl, rfl⟩ := h; exact model29_3 w
  split at h
  · rename_i e; subst e; simp only [Option.some.injEq, Prod.mk.injEq] at h; obtain ⟨rfl, rfl, rfl⟩ := h; exact model29_4 w
  split at h
  · rename_i e; subst e; simp only [Option.some.injEq, Prod.mk.injEq] at h; obtain ⟨rfl, rfl, rfl⟩ := h; exact model29_5 w
  · simp only [Option.some.injEq, Prod.mk.injEq] at h; obtain ⟨rfl, rfl, rfl⟩ := h; exact model29_0 a0 (by omega) w

theorem count_walk (c0 c2 c3 c4 c5 : Int) (w : World) (a : Bool) (r : Int) (hr : (if a = true then 1 else 0) = r) : Calls Try.prog 150 #[.agg #[.int .u8 c0, .bool a, .int .u8 c2, .int .u8 c3, .int .u8 c4, .int .u8 c5]] w fun e w' => e = .returned (.int .i64 r) ∧ Below w.heap.size w w' := by
  have kb : ∀ o : Obj, Below w.heap.size w (w.alloc o) := fun o => (Below.refl _ w).alloc (Nat.le_refl _) o
  subst hr
  cases a
  · go_enter Try.func150, Try.ntmps150
    go_wp2
    go_ret
    exact ⟨rfl, kb _⟩
  · go_enter Try.func150, Try.ntmps150
    go_wp2
    go_ret
    exact ⟨rfl, kb _⟩
def vitrineref05_Bits.f (k : Nat) (p n : Bool) (d : Int) (m : Bool) : Option (Int × Int) :=
  if d < 0 ∨ 3 < d then some (0, 1) else some (4 * d + (if p = true then 32 else 0) + (if n = true then 16 else 0) + (if m = true then 1 else 0), 0)
theorem bits_bad (p n m : Bool) (d : Int) (h : d < 0 ∨ 3 < d) (w : World) : Calls Try.prog 181 #[.agg #[.bool p, .bool n, .int .i64 d, .bool m]] w fun e w' => e = .returned (.tuple #[.int .u8 0, .int .i64 1]) ∧ Below w.heap.size w w' := by
  have kb : ∀ o : Obj, Below w.heap.size w (w.alloc o) := fun o => (Below.refl _ w).alloc (Nat.le_refl _) o
  by_cases hl : d < 0
  · have hlb : decide (d < 0) = true := decide_eq_true hl
    clear h
    go_enter Try.func181, Try.ntmps181
    go_wp2
    go_ret2
    exact ⟨rfl, kb _⟩
  · have hlb : decide (d < 0) = false := decide_eq_false hl
    have hgb : decide (3 < d) = true := decide_eq_true (by omega)
    clear h
    go_enter Try.func181, Try.ntmps181
    go_wp2
    go_ret2
    exact ⟨rfl, kb _⟩
theorem bits_ok (p n m : Bool) (d : Int) (h1 : 0 ≤ d) (h2 : d ≤ 3) (w : World) (r : Int) (hr : 4 * d + (if p = true then 32 else 0) + (if n = true then 16 else 0) + (if m = true then 1 else 0) = r) : Calls Try.prog 181 #[.agg #[.bool p, .bool n, .int .i64 d, .bool m]] w fun e w' => e = .returned (.tuple #[.int .u8 r, .int .i64 0]) ∧ Below w.heap.size w w' := by
  have kb : ∀ o : Obj, Below w.heap.size w (w.alloc o) := fun o => (Below.refl _ w).alloc (Nat.le_refl _) o
  have hlb : decide (d < 0) = false := decide_eq_false (by omega)
  have hgb : decide (3 < d) = false := decide_eq_false (by omega)
  cases p <;> cases n <;> cases m
  all_goals
    simp only [if_true, if_false, Bool.false_eq_true, Int.add_zero] at hr
    have HR := Aside0.mk hr
    clear hr
    go_enter Try.func181, Try.ntmps181
    go_wp2
    go_ret2
    refine ⟨?_, kb _⟩
    rw [← HR.out]; rfl
theorem vitrineref05_Bits.calls (k : Nat) (a0_0 : Bool) (a0_1 : Bool) (a0_2 : Int) (a0_3 : Bool) (r1 : Int) (r2 : Int) (w : World) (h : vitrineref05_Bits.f k a0_0 a0_1 a0_2 a0_3 = some (r1, r2)) :
    Calls Try.prog 181 #[.agg #[.bool a0_0, .bool a0_1, .int .i64 a0_2, .bool a0_3]] w fun e w' => e = .returned (.tuple #[.int .u8 r1, .int .i64 r2]) ∧ Below w.heap.size w w' := by
  unfold vitrineref05_Bits.f at h
  split at h
  · rename_i e; simp only [Option.some.injEq, Prod.mk.injEq] at h; obtain ⟨rfl, rfl⟩ := h; exact bits_bad _ _ _ _ e w
  · rename_i e; simp only [Option.some.injEq, Prod.mk.injEq] at h; obtain ⟨h1, rfl⟩ := h; exact bits_ok _ _ _ _ (by omega) (by omega) w _ h1
theorem skipped_calls (p n m : Bool) (d : Int) (w : World) : Calls Try.prog 167 #[.agg #[.bool p, .bool n, .int .i64 d, .bool m]] w fun e w' => e = .returned (.bool (p && n)) ∧ Below w.heap.size w w' := by
  have kb : ∀ o : Obj, Below w.heap.size w (w.alloc o) := fun o => (Below.refl _ w).alloc (Nat.le_refl _) o
  cases p
  · go_enter Try.func167, Try.ntmps167
    go_wp2
    go_ret
    exact ⟨rfl, kb _⟩
  · go_enter Try.func167, Try.ntmps167
    go_wp2
    go_ret
    exact ⟨by first | rfl | simp, kb _⟩
theorem max2_int (k k' : IntKind) (x y : Int) : Builtin.max2 (.int k x) (.int k' y) = pure (.int k (if x < y then y else x)) := by simp only [Builtin.max2, gt_iff_lt]
theorem max_two (ats : Array TypeId) (ty : TypeId) (a b : Value) : Builtin.max_ ats ty #[a, b] = (Builtin.max2 a b >>= fun s => pure s) := by simp only [Builtin.max_, List.foldlM_cons, List.foldlM_nil]

end Go.Proofs.Ytangandfgbnomaa.V
