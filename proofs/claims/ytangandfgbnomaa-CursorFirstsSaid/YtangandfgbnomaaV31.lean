/- Contracts of functions of the seat's program, written by a tool of the kit, taken over by wip/asm.py. -/
import Derived.Test.YtangandfgbnomaaV3
namespace Go.Proofs.Ytangandfgbnomaa.V
open Go.RowKit Go.Proofs.YtangandfgbnomaaW.PrintWords Go.Proofs.YtangandfgbnomaaW.PrintLast Go.Proofs.YtangandfgbnomaaW.PrintMore
attribute [local go_sem] max2_int min2_int max_two min_two max_three min_three max_four min_four   -- for this text's walks alone
set_option linter.unusedVariables false
set_option linter.unusedSimpArgs false

theorem i64_wrap64 (n : Int) : IntKind.i64.wrap n = wrap64 n := by rw [IntKind.wrap_i64, wrap64]

/-! ### addr_Decode: function 39 -/
mutual
def addr_Decode.j0 : Nat → Int → List Int → Bool → Option (Int × Int)
  | 0, _, _, _ => none
  | k + 1, x0, x1, x7 => if x7 = true then (some (0, 1)) else (if (x1.length : Int) < 2 then (some (0, 2)) else (if 0 < (x1.length : Int) then (if 1 < (x1.length : Int) then (if x0 = 16 then (addr_Decode.j1 k x1 (Go.bits .or .i64 (wrap64 ((wrap64 (rd x1 0)) * 256)) (wrap64 (rd x1 1))) true) else (addr_Decode.j1 k x1 (Go.bits .or .i64 (wrap64 ((wrap64 (rd x1 0)) * 256)) (wrap64 (rd x1 1))) (((rd x1 0) / 64) == 0))) else (none)) else (none)))
def addr_Decode.j1 : Nat → List Int → Int → Bool → Option (Int × Int)
  | 0, _, _, _ => none
  | k + 1, x1, x6, x32 => if x32 = true then (some (x6, 0)) else (if 0 < (x1.length : Int) then (if ((rd x1 0) / 64) = 2 then (some (0, 9)) else ((addr_Unsix.f k (rd x1 0)).bind fun t146 => (if 1 < (x1.length : Int) then ((addr_Unsix.f k (rd x1 1)).bind fun t148 => (some (Go.bits .or .i64 (wrap64 (t146 * 64)) t148, 0))) else (none)))) else (none))
end
def addr_Decode.f (k : Nat) (a0 : Int) (l1 : List Int) : Option (Int × Int) := if a0 = 12 then (addr_Decode.j0 k a0 l1 false) else (if a0 = 14 then (addr_Decode.j0 k a0 l1 false) else (addr_Decode.j0 k a0 l1 (a0 != 16)))
theorem addr_Decode.mono_l : ∀ k, (∀ y0 y1 y2, LeO (addr_Decode.j0 k y0 y1 y2) (addr_Decode.j0 (k + 1) y0 y1 y2)) ∧ (∀ y0 y1 y2, LeO (addr_Decode.j1 k y0 y1 y2) (addr_Decode.j1 (k + 1) y0 y1 y2))
  | 0 => ⟨fun _ _ _ r h => by simp [addr_Decode.j0] at h, fun _ _ _ r h => by simp [addr_Decode.j1] at h⟩
  | k + 1 => by
    obtain ⟨ih0, ih1⟩ := addr_Decode.mono_l k
    refine ⟨?_, ?_⟩
    · intro y0 y1 y2
      unfold addr_Decode.j0
      repeat' first
      | (with_reducible exact ih0 _ _ _)
      | (with_reducible exact ih1 _ _ _)
      | (with_reducible exact addr_Unsix.mono _ _)
      | (with_reducible exact LeO.refl _)
      | (with_reducible exact LeO.none _)
      | (with_reducible refine LeO.ite ?_ ?_)
      | (with_reducible refine LeO.bind ?_ (fun _ => ?_))
      | exact ih0 _ _ _
      | exact ih1 _ _ _
      | exact addr_Unsix.mono _ _
      | exact LeO.none _
      | refine LeO.ite ?_ ?_
      | refine LeO.bind ?_ (fun _ => ?_)
    · intro y0 y1 y2
      unfold addr_Decode.j1
      repeat' first
      | (with_reducible exact ih0 _ _ _)
      | (with_reducible exact ih1 _ _ _)
      | (with_reducible exact addr_Unsix.mono _ _)
      | (with_reducible exact LeO.refl _)
      | (with_reducible exact LeO.none _)
      | (with_reducible refine LeO.ite ?_ ?_)
      | (with_reducible refine LeO.bind ?_ (fun _ => ?_))
      | exact ih0 _ _ _
      | exact ih1 _ _ _
      | exact addr_Unsix.mono _ _
      | exact LeO.none _
      | refine LeO.ite ?_ ?_
      | refine LeO.bind ?_ (fun _ => ?_)
theorem addr_Decode.mono : ∀ a0 a1 k, LeO (addr_Decode.f k a0 a1) (addr_Decode.f (k + 1) a0 a1) := by
  intro a0 a1 k
  obtain ⟨ih0, ih1⟩ := addr_Decode.mono_l k
  unfold addr_Decode.f
  repeat' first
      | (with_reducible exact ih0 _ _ _)
      | (with_reducible exact ih1 _ _ _)
      | (with_reducible exact addr_Unsix.mono _ _)
      | (with_reducible exact LeO.refl _)
      | (with_reducible exact LeO.none _)
      | (with_reducible refine LeO.ite ?_ ?_)
      | (with_reducible refine LeO.bind ?_ (fun _ => ?_))
      | exact ih0 _ _ _
      | exact ih1 _ _ _
      | exact addr_Unsix.mono _ _
      | exact LeO.none _
      | refine LeO.ite ?_ ?_
      | refine LeO.bind ?_ (fun _ => ?_)
set_option maxHeartbeats 8000000 in
set_option maxRecDepth 100000 in
theorem addr_Decode.calls (k : Nat) (a0 : Int) (A1 : Option Addr) (c1 : Nat) (l1 : List Int) (r1 : Int) (r2 : Int) (w : World) (hr1 : Kd.C (Kd.int .u8) w A1 l1.length l1) (hc1 : l1.length ≤ c1) (h : addr_Decode.f k a0 l1 = some (r1, r2)) :
    Calls Try.prog 39 #[.int .i64 a0, .slice A1 l1.length c1] w fun e w' => e = .returned (.tuple #[.int .i64 r1, .int .i64 r2]) ∧ Drawn0 w w' := by
  have HR1 := Aside0.mk hr1
  have HC1 := Aside0.mk hc1
  clear hr1 hc1
  have H : (if a0 = 12 then (addr_Decode.j0 k a0 l1 false) else (if a0 = 14 then (addr_Decode.j0 k a0 l1 false) else (addr_Decode.j0 k a0 l1 (a0 != 16)))) = some (r1, r2) := h
  clear h
  have HC3 := Aside0.mk H
  clear H
  go_enter Try.func39, Try.ntmps39
  go_upto_region 1 with (fail)
  repeat (go_quiet (fail); go_upto_region 1 with (fail))
  go_cut [7] (fun v7 wc => ∃ (kq : Nat) (x7_2 : Bool), v7 = .bool x7_2 ∧ Aside0 (addr_Decode.j0 kq a0 l1 x7_2 = some (r1, r2)) ∧ Aside0 (kq ≤ k) ∧ Drawn0 w wc)
  case first =>
    have H := HC3.out
    clear HC3
    by_cases c4 : a0 = 12
    · rw [if_pos c4] at H
      have c4b0 : (a0 == 12) = true := beq_iff_eq.mpr c4
      have c4b1 : (a0 != 12) = false := bne_eq_false_iff_eq.mpr c4
      clear c4
      (first | rw [c4b0] | (simp only [i64_w, i32_w]; rw [c4b0]) | skip)
      have H' := Aside0.mk H
      clear H
      go_wp2
      repeat (go_quiet (fail); try go_wp2)
      go_meet
      case rel => exact ⟨_, (false), (by first | rfl | (simp; done) | (simp [*]; done)), H', ⟨by first | omega | exact Nat.le_refl _⟩, by repeat (first | exact Drawn0.refl _ | apply Drawn0.step)⟩
    · rw [if_neg c4] at H
      have c4b0 : (a0 == 12) = false := beq_eq_false_iff_ne.mpr c4
      have c4b1 : (a0 != 12) = true := bne_iff_ne.mpr c4
      (first | rw [c4b0] | (simp only [i64_w, i32_w]; rw [c4b0]) | skip)
      by_cases c5 : a0 = 14
      · rw [if_pos c5] at H
        have c5b0 : (a0 == 14) = true := beq_iff_eq.mpr c5
        have c5b1 : (a0 != 14) = false := bne_eq_false_iff_eq.mpr c5
        clear c5
        have H' := Aside0.mk H
        clear H
        go_wp2
        repeat (go_quiet (fail); try go_wp2)
        go_meet
        case rel => exact ⟨_, (false), (by first | rfl | (simp; done) | (simp [*]; done)), H', ⟨by first | omega | exact Nat.le_refl _⟩, by repeat (first | exact Drawn0.refl _ | apply Drawn0.step)⟩
      · rw [if_neg c5] at H
        have c5b0 : (a0 == 14) = false := beq_eq_false_iff_ne.mpr c5
        have c5b1 : (a0 != 14) = true := bne_iff_ne.mpr c5
        have H' := Aside0.mk H
        clear H
        go_wp2
        repeat (go_quiet (fail); try go_wp2)
        go_meet
        case rel => exact ⟨_, ((a0 != 16)), (by first | rfl | (simp; done) | (simp [*]; done)), H', ⟨by first | omega | exact Nat.le_refl _⟩, by repeat (first | exact Drawn0.refl _ | apply Drawn0.step)⟩
  case rest =>
    clear HC3
    try clear c1
    try clear p2
    try clear c3
    try clear c4
    try clear c4b0
    try clear c4b1
    try clear c5
    try clear c5b0
    try clear c5b1
    obtain ⟨kq, x7_2, rfl, HA, HJ2, ⟨mc2, rfl⟩⟩ := hcut
    cases kq with
    | zero => exact absurd HA.out (by simp [addr_Decode.j0])
    | succ kj2 =>
      have H := HA.out
      clear HA
      simp only [addr_Decode.j0] at H
      by_cases c6 : x7_2 = true
      · subst c6
        have H1 : (some (0, 1)) = some (r1, r2) := by rw [if_pos rfl] at H; exact H
        clear H
        have H := H1
        clear H1
        simp only [Option.some.injEq, Prod.mk.injEq] at H
        obtain ⟨rfl, rfl⟩ := H
        go_wp2
        repeat (go_quiet (fail); try go_wp2)
        go_ret2
        exact ⟨by first | rfl | (simp; done) | (simp [*]; done) | (simp only [i64_wrap64]; rfl), by repeat (first | exact Drawn0.refl _ | apply Drawn0.step)⟩
      · replace c6 := Bool.eq_false_iff.mpr c6
        subst c6
        have H1 : (if (l1.length : Int) < 2 then (some (0, 2)) else (if 0 < (l1.length : Int) then (if 1 < (l1.length : Int) then (if a0 = 16 then (addr_Decode.j1 kj2 l1 (Go.bits .or .i64 (wrap64 ((wrap64 (rd l1 0)) * 256)) (wrap64 (rd l1 1))) true) else (addr_Decode.j1 kj2 l1 (Go.bits .or .i64 (wrap64 ((wrap64 (rd l1 0)) * 256)) (wrap64 (rd l1 1))) (((rd l1 0) / 64) == 0))) else (none)) else (none))) = some (r1, r2) := by rw [if_neg (show ¬ (false = true) by decide)] at H; exact H
        clear H
        have H := H1
        clear H1
        by_cases c7 : (l1.length : Int) < 2
        · rw [if_pos c7] at H
          have c7b0 : decide ((l1.length : Int) < 2) = true := decide_eq_true c7
          have c7b1 : decide (l1.length < 2) = true := decide_eq_true (by omega)
          clear c7
          simp only [Option.some.injEq, Prod.mk.injEq] at H
          obtain ⟨rfl, rfl⟩ := H
          go_wp2
          repeat (go_quiet (fail); try go_wp2)
          go_ret2
          exact ⟨by first | rfl | (simp; done) | (simp [*]; done) | (simp only [i64_wrap64]; rfl), by repeat (first | exact Drawn0.refl _ | apply Drawn0.step)⟩
        · rw [if_neg c7] at H
          have c7b0 : decide ((l1.length : Int) < 2) = false := decide_eq_false c7
          have c7b1 : decide (l1.length < 2) = false := decide_eq_false (by omega)
          clear c7
          by_cases c8 : 0 < (l1.length : Int)
          · rw [if_pos c8] at H
            have c8b0 : decide (0 < (l1.length : Int)) = true := decide_eq_true c8
            have c8b1 : decide (0 < l1.length) = true := decide_eq_true (by omega)
            clear c8
            by_cases c9 : 1 < (l1.length : Int)
            · rw [if_pos c9] at H
              have c9b0 : decide (1 < (l1.length : Int)) = true := decide_eq_true c9
              have c9b1 : decide (1 < l1.length) = true := decide_eq_true (by omega)
              clear c9
              have HC10 := Aside0.mk H
              clear H
              have p141 : 0 ≤ (0 : Int) := (by omega)
              have q141 : 0 < (l1.length : Int) := of_decide_eq_true (by first | (with_reducible assumption) | assumption)
              obtain ⟨ad141, e141, hx141_0⟩ := Kd.at_int HR1.out 0 p141 q141
              cases e141
              have qi141 : (0 < l1.length) = True := eq_true (by omega)
              (try rw [show ((0 : Int)).toNat = 0 from rfl] at hx141_0)
              (try rw [Addr.add_zero'] at hx141_0)
              replace p141 := eq_true p141
              replace q141 := eq_true q141
              have p142 : 0 ≤ (1 : Int) := (by omega)
              have q142 : 1 < (l1.length : Int) := of_decide_eq_true (by first | (with_reducible assumption) | assumption)
              obtain ⟨ad142, e142, hx142_0⟩ := Kd.at_int HR1.out 1 p142 q142
              obtain rfl : ad141 = ad142 := (by injection e142)
              (try simp only [show (1 : Int).toNat = 1 from rfl, Nat.reduceMul, Nat.reduceEqDiff, Go.Addr.add, ↓reduceIte] at hx142_0)
              have qi142 : (1 < l1.length) = True := eq_true (by omega)
              (try rw [show ((1 : Int)).toNat = 1 from rfl] at hx142_0)
              replace p142 := eq_true p142
              replace q142 := eq_true q142
              go_upto_region 6 with (fail)
              repeat (go_quiet (fail); go_upto_region 6 with (fail))
              go_cut [32] (fun v32 wc => ∃ (kq : Nat) (x32_9 : Bool), v32 = .bool x32_9 ∧ Aside0 (addr_Decode.j1 kq l1 (Go.bits .or .i64 (wrap64 ((wrap64 (rd l1 0)) * 256)) (wrap64 (rd l1 1))) x32_9 = some (r1, r2)) ∧ Aside0 (kq ≤ kj2) ∧ Drawn0 w wc)
              case first =>
                have H := HC10.out
                clear HC10
                by_cases c11 : a0 = 16
                · rw [if_pos c11] at H
                  have c11b0 : (a0 == 16) = true := beq_iff_eq.mpr c11
                  have c11b1 : (a0 != 16) = false := bne_eq_false_iff_eq.mpr c11
                  clear c11
                  (first | rw [c11b0] | (simp only [i64_w, i32_w]; rw [c11b0]) | skip)
                  have H' := Aside0.mk H
                  clear H
                  go_wp2
                  repeat (go_quiet (fail); try go_wp2)
                  go_meet
                  case rel => exact ⟨_, (true), (by first | rfl | (simp; done) | (simp [*]; done)), H', ⟨by have := HJ2.out; first | omega | exact Nat.le_refl _⟩, by repeat (first | exact Drawn0.refl _ | apply Drawn0.step)⟩
                · rw [if_neg c11] at H
                  have c11b0 : (a0 == 16) = false := beq_eq_false_iff_ne.mpr c11
                  have c11b1 : (a0 != 16) = true := bne_iff_ne.mpr c11
                  (first | rw [c11b0] | (simp only [i64_w, i32_w]; rw [c11b0]) | skip)
                  have H' := Aside0.mk H
                  clear H
                  have p143 : 0 ≤ (0 : Int) := (by omega)
                  have q143 : 0 < (l1.length : Int) := of_decide_eq_true (by first | (with_reducible assumption) | assumption)
                  obtain ⟨ad143, e143, hx143_0⟩ := Kd.at_int HR1.out 0 p143 q143
                  obtain rfl : ad141 = ad143 := (by injection e143)
                  have qi143 : (0 < l1.length) = True := eq_true (by omega)
                  (try rw [show ((0 : Int)).toNat = 0 from rfl] at hx143_0)
                  (try rw [Addr.add_zero'] at hx143_0)
                  replace p143 := eq_true p143
                  replace q143 := eq_true q143
                  go_wp2
                  repeat (go_quiet (fail); try go_wp2)
                  go_meet
                  case rel => exact ⟨_, ((((rd l1 0) / 64) == 0)), (by first | rfl | (simp; done) | (simp [*]; done)), H', ⟨by have := HJ2.out; first | omega | exact Nat.le_refl _⟩, by repeat (first | exact Drawn0.refl _ | apply Drawn0.step)⟩
              case rest =>
                clear HC10
                try clear c1
                try clear p1
                try clear q1
                try clear hx1
                try clear qi1
                try clear c2
                try clear p2
                try clear c3
                try clear c4
                try clear c4b0
                try clear c4b1
                try clear c5
                try clear c5b0
                try clear c5b1
                try clear c6
                try clear p6
                try clear c7
                try clear c7b0
                try clear c7b1
                try clear c8
                try clear c8b0
                try clear c8b1
                try clear c9
                try clear c9b0
                try clear c9b1
                try clear c11
                try clear c11b0
                try clear c11b1
                try clear hx141_0
                try clear hx142_0
                try clear hx143_0
                try clear p141
                try clear p142
                try clear p143
                try clear p2
                try clear q141
                try clear q142
                try clear q143
                obtain ⟨kq, x32_9, rfl, HA, HJ9, ⟨mc9, rfl⟩⟩ := hcut
                cases kq with
                | zero => exact absurd HA.out (by simp [addr_Decode.j1])
                | succ kj9 =>
                  have H := HA.out
                  clear HA
                  simp only [addr_Decode.j1] at H
                  by_cases c12 : x32_9 = true
                  · subst c12
                    have H1 : (some ((Go.bits .or .i64 (wrap64 ((wrap64 (rd l1 0)) * 256)) (wrap64 (rd l1 1))), 0)) = some (r1, r2) := by rw [if_pos rfl] at H; exact H
                    clear H
                    have H := H1
                    clear H1
                    simp only [Option.some.injEq, Prod.mk.injEq] at H
                    obtain ⟨rfl, rfl⟩ := H
                    go_wp2
                    repeat (go_quiet (fail); try go_wp2)
                    go_ret2
                    exact ⟨by first | rfl | (simp; done) | (simp [*]; done) | (simp only [i64_wrap64]; rfl), by repeat (first | exact Drawn0.refl _ | apply Drawn0.step)⟩
                  · replace c12 := Bool.eq_false_iff.mpr c12
                    subst c12
                    have H1 : (if 0 < (l1.length : Int) then (if ((rd l1 0) / 64) = 2 then (some (0, 9)) else ((addr_Unsix.f kj9 (rd l1 0)).bind fun t146 => (if 1 < (l1.length : Int) then ((addr_Unsix.f kj9 (rd l1 1)).bind fun t148 => (some (Go.bits .or .i64 (wrap64 (t146 * 64)) t148, 0))) else (none)))) else (none)) = some (r1, r2) := by rw [if_neg (show ¬ (false = true) by decide)] at H; exact H
                    clear H
                    have H := H1
                    clear H1
                    by_cases c13 : 0 < (l1.length : Int)
                    · rw [if_pos c13] at H
                      have c13b0 : decide (0 < (l1.length : Int)) = true := decide_eq_true c13
                      have c13b1 : decide (0 < l1.length) = true := decide_eq_true (by omega)
                      clear c13
                      by_cases c14 : ((rd l1 0) / 64) = 2
                      · rw [if_pos c14] at H
                        have c14b0 : (((rd l1 0) / 64) == 2) = true := beq_iff_eq.mpr c14
                        have c14b1 : (((rd l1 0) / 64) != 2) = false := bne_eq_false_iff_eq.mpr c14
                        clear c14
                        simp only [Option.some.injEq, Prod.mk.injEq] at H
                        obtain ⟨rfl, rfl⟩ := H
                        have p144 : 0 ≤ (0 : Int) := (by omega)
                        have q144 : 0 < (l1.length : Int) := of_decide_eq_true (by first | (with_reducible assumption) | assumption)
                        obtain ⟨ad144, e144, hx144_0⟩ := Kd.at_int HR1.out 0 p144 q144
                        obtain rfl : ad141 = ad144 := (by injection e144)
                        have qi144 : (0 < l1.length) = True := eq_true (by omega)
                        (try rw [show ((0 : Int)).toNat = 0 from rfl] at hx144_0)
                        (try rw [Addr.add_zero'] at hx144_0)
                        replace p144 := eq_true p144
                        replace q144 := eq_true q144
                        go_wp2
                        repeat (go_quiet (fail); try go_wp2)
                        go_ret2
                        exact ⟨by first | rfl | (simp; done) | (simp [*]; done) | (simp only [i64_wrap64]; rfl), by repeat (first | exact Drawn0.refl _ | apply Drawn0.step)⟩
                      · rw [if_neg c14] at H
                        have c14b0 : (((rd l1 0) / 64) == 2) = false := beq_eq_false_iff_ne.mpr c14
                        have c14b1 : (((rd l1 0) / 64) != 2) = true := bne_iff_ne.mpr c14
                        replace H := Option.bind_eq_some_iff.mp H
                        obtain ⟨t146, A150, H⟩ := H
                        replace H : (if 1 < (l1.length : Int) then ((addr_Unsix.f kj9 (rd l1 1)).bind fun t148 => (some (Go.bits .or .i64 (wrap64 (t146 * 64)) t148, 0))) else (none)) = some (r1, r2) := H
                        have A15 := Aside0.mk A150
                        clear A150
                        by_cases c16 : 1 < (l1.length : Int)
                        · rw [if_pos c16] at H
                          have c16b0 : decide (1 < (l1.length : Int)) = true := decide_eq_true c16
                          have c16b1 : decide (1 < l1.length) = true := decide_eq_true (by omega)
                          clear c16
                          replace H := Option.bind_eq_some_iff.mp H
                          obtain ⟨t148, A170, H⟩ := H
                          replace H : (some (Go.bits .or .i64 (wrap64 (t146 * 64)) t148, 0)) = some (r1, r2) := H
                          have A17 := Aside0.mk A170
                          clear A170
                          simp only [Option.some.injEq, Prod.mk.injEq] at H
                          obtain ⟨rfl, rfl⟩ := H
                          have p144 : 0 ≤ (0 : Int) := (by omega)
                          have q144 : 0 < (l1.length : Int) := of_decide_eq_true (by first | (with_reducible assumption) | assumption)
                          obtain ⟨ad144, e144, hx144_0⟩ := Kd.at_int HR1.out 0 p144 q144
                          obtain rfl : ad141 = ad144 := (by injection e144)
                          have qi144 : (0 < l1.length) = True := eq_true (by omega)
                          (try rw [show ((0 : Int)).toNat = 0 from rfl] at hx144_0)
                          (try rw [Addr.add_zero'] at hx144_0)
                          replace p144 := eq_true p144
                          replace q144 := eq_true q144
                          have p145 : 0 ≤ (0 : Int) := (by omega)
                          have q145 : 0 < (l1.length : Int) := of_decide_eq_true (by first | (with_reducible assumption) | assumption)
                          obtain ⟨ad145, e145, hx145_0⟩ := Kd.at_int HR1.out 0 p145 q145
                          obtain rfl : ad141 = ad145 := (by injection e145)
                          have qi145 : (0 < l1.length) = True := eq_true (by omega)
                          (try rw [show ((0 : Int)).toNat = 0 from rfl] at hx145_0)
                          (try rw [Addr.add_zero'] at hx145_0)
                          replace p145 := eq_true p145
                          replace q145 := eq_true q145
                          go_wp2_with (first | (go_at_call 44; (with_reducible refine (addr_Unsix.calls kj9 (rd l1 0) t146 _ A15.out).mono ?_); rintro e w' ⟨rfl, ⟨nd, rfl⟩⟩; (try first | exact ⟨rfl, _, World.drewN_drewN _ _ _⟩ | exact ⟨rfl, _, Eq.trans (World.drewN_drewN _ _ _) (congrArg (World.drewN _) (Nat.add_assoc _ _ _))⟩); have p147 : 0 ≤ (1 : Int) := (by omega); have q147 : 1 < (l1.length : Int) := of_decide_eq_true (by first | (with_reducible assumption) | assumption); obtain ⟨ad147, e147, hx147_0⟩ := Kd.at_int HR1.out 1 p147 q147; obtain rfl : ad141 = ad147 := (by injection e147); (try simp only [show (1 : Int).toNat = 1 from rfl, Nat.reduceMul, Nat.reduceEqDiff, Go.Addr.add, ↓reduceIte] at hx147_0); have qi147 : (1 < l1.length) = True := eq_true (by omega); (try rw [show ((1 : Int)).toNat = 1 from rfl] at hx147_0); replace p147 := eq_true p147; replace q147 := eq_true q147) | (go_at_call 44; (with_reducible refine (addr_Unsix.calls kj9 (rd l1 1) t148 _ A17.out).mono ?_); rintro e w' ⟨rfl, ⟨nd, rfl⟩⟩; (try first | exact ⟨rfl, _, World.drewN_drewN _ _ _⟩ | exact ⟨rfl, _, Eq.trans (World.drewN_drewN _ _ _) (congrArg (World.drewN _) (Nat.add_assoc _ _ _))⟩)))
                          repeat (go_quiet (first | (go_at_call 44; (with_reducible refine (addr_Unsix.calls kj9 (rd l1 0) t146 _ A15.out).mono ?_); rintro e w' ⟨rfl, ⟨nd, rfl⟩⟩; (try first | exact ⟨rfl, _, World.drewN_drewN _ _ _⟩ | exact ⟨rfl, _, Eq.trans (World.drewN_drewN _ _ _) (congrArg (World.drewN _) (Nat.add_assoc _ _ _))⟩); have p147 : 0 ≤ (1 : Int) := (by omega); have q147 : 1 < (l1.length : Int) := of_decide_eq_true (by first | (with_reducible assumption) | assumption); obtain ⟨ad147, e147, hx147_0⟩ := Kd.at_int HR1.out 1 p147 q147; obtain rfl : ad141 = ad147 := (by injection e147); (try simp only [show (1 : Int).toNat = 1 from rfl, Nat.reduceMul, Nat.reduceEqDiff, Go.Addr.add, ↓reduceIte] at hx147_0); have qi147 : (1 < l1.length) = True := eq_true (by omega); (try rw [show ((1 : Int)).toNat = 1 from rfl] at hx147_0); replace p147 := eq_true p147; replace q147 := eq_true q147) | (go_at_call 44; (with_reducible refine (addr_Unsix.calls kj9 (rd l1 1) t148 _ A17.out).mono ?_); rintro e w' ⟨rfl, ⟨nd, rfl⟩⟩; (try first | exact ⟨rfl, _, World.drewN_drewN _ _ _⟩ | exact ⟨rfl, _, Eq.trans (World.drewN_drewN _ _ _) (congrArg (World.drewN _) (Nat.add_assoc _ _ _))⟩))); try go_wp2_with (first | (go_at_call 44; (with_reducible refine (addr_Unsix.calls kj9 (rd l1 0) t146 _ A15.out).mono ?_); rintro e w' ⟨rfl, ⟨nd, rfl⟩⟩; (try first | exact ⟨rfl, _, World.drewN_drewN _ _ _⟩ | exact ⟨rfl, _, Eq.trans (World.drewN_drewN _ _ _) (congrArg (World.drewN _) (Nat.add_assoc _ _ _))⟩); have p147 : 0 ≤ (1 : Int) := (by omega); have q147 : 1 < (l1.length : Int) := of_decide_eq_true (by first | (with_reducible assumption) | assumption); obtain ⟨ad147, e147, hx147_0⟩ := Kd.at_int HR1.out 1 p147 q147; obtain rfl : ad141 = ad147 := (by injection e147); (try simp only [show (1 : Int).toNat = 1 from rfl, Nat.reduceMul, Nat.reduceEqDiff, Go.Addr.add, ↓reduceIte] at hx147_0); have qi147 : (1 < l1.length) = True := eq_true (by omega); (try rw [show ((1 : Int)).toNat = 1 from rfl] at hx147_0); replace p147 := eq_true p147; replace q147 := eq_true q147) | (go_at_call 44; (with_reducible refine (addr_Unsix.calls kj9 (rd l1 1) t148 _ A17.out).mono ?_); rintro e w' ⟨rfl, ⟨nd, rfl⟩⟩; (try first | exact ⟨rfl, _, World.drewN_drewN _ _ _⟩ | exact ⟨rfl, _, Eq.trans (World.drewN_drewN _ _ _) (congrArg (World.drewN _) (Nat.add_assoc _ _ _))⟩))))
                          go_ret2
                          exact ⟨by first | rfl | (simp; done) | (simp [*]; done) | (simp only [i64_wrap64]; rfl), by repeat (first | exact Drawn0.refl _ | apply Drawn0.step)⟩
                        · rw [if_neg c16] at H
                          exact absurd H (by simp)
                    · rw [if_neg c13] at H
                      exact absurd H (by simp)
            · rw [if_neg c9] at H
              exact absurd H (by simp)
          · rw [if_neg c8] at H
            exact absurd H (by simp)

/-! ### vitrineref04_Decode: function 41 -/
mutual
def vitrineref04_Decode.j0 : Nat → Int → List Int → Bool → Option (Int × Int)
  | 0, _, _, _ => none
  | k + 1, x0, x1, x16 => if x16 = true then (some (0, 1)) else (if (x1.length : Int) < 2 then (some (0, 2)) else (if 0 < (x1.length : Int) then (if 1 < (x1.length : Int) then (if x0 = 16 then (vitrineref04_Decode.j1 k x1 (wrap64 ((wrap64 (256 * (wrap64 (rd x1 0)))) + (wrap64 (rd x1 1)))) true) else (vitrineref04_Decode.j1 k x1 (wrap64 ((wrap64 (256 * (wrap64 (rd x1 0)))) + (wrap64 (rd x1 1)))) (decide ((rd x1 0) < 64)))) else (none)) else (none)))
def vitrineref04_Decode.j1 : Nat → List Int → Int → Bool → Option (Int × Int)
  | 0, _, _, _ => none
  | k + 1, x1, x6, x37 => if x37 = true then (some (x6, 0)) else (if 0 < (x1.length : Int) then (if (rd x1 0) ≥ 128 then (vitrineref04_Decode.j2 k x1 (decide ((rd x1 0) < 192))) else (vitrineref04_Decode.j2 k x1 false)) else (none))
def vitrineref04_Decode.j2 : Nat → List Int → Bool → Option (Int × Int)
  | 0, _, _ => none
  | k + 1, x1, x48 => if x48 = true then (some (0, 9)) else (if 0 < (x1.length : Int) then ((vitrineref04_Unsix.f k (rd x1 0)).bind fun t198 => (if 1 < (x1.length : Int) then ((vitrineref04_Unsix.f k (rd x1 1)).bind fun t200 => (some (wrap64 ((wrap64 (64 * t198)) + t200), 0))) else (none))) else (none))
end
def vitrineref04_Decode.f (k : Nat) (a0 : Int) (l1 : List Int) : Option (Int × Int) := if a0 = 12 then (vitrineref04_Decode.j0 k a0 l1 false) else (if a0 = 14 then (vitrineref04_Decode.j0 k a0 l1 false) else (vitrineref04_Decode.j0 k a0 l1 (a0 != 16)))
theorem vitrineref04_Decode.mono_l : ∀ k, (∀ y0 y1 y2, LeO (vitrineref04_Decode.j0 k y0 y1 y2) (vitrineref04_Decode.j0 (k + 1) y0 y1 y2)) ∧ (∀ y0 y1 y2, LeO (vitrineref04_Decode.j1 k y0 y1 y2) (vitrineref04_Decode.j1 (k + 1) y0 y1 y2)) ∧ (∀ y0 y1, LeO (vitrineref04_Decode.j2 k y0 y1) (vitrineref04_Decode.j2 (k + 1) y0 y1))
  | 0 => ⟨fun _ _ _ r h => by simp [vitrineref04_Decode.j0] at h, fun _ _ _ r h => by simp [vitrineref04_Decode.j1] at h, fun _ _ r h => by simp [vitrineref04_Decode.j2] at h⟩
  | k + 1 => by
    obtain ⟨ih0, ih1, ih2⟩ := vitrineref04_Decode.mono_l k
    refine ⟨?_, ?_, ?_⟩
    · intro y0 y1 y2
      unfold vitrineref04_Decode.j0
      repeat' first
      | (with_reducible exact ih0 _ _ _)
      | (with_reducible exact ih1 _ _ _)
      | (with_reducible exact ih2 _ _)
      | (with_reducible exact vitrineref04_Unsix.mono _ _)
      | (with_reducible exact LeO.refl _)
      | (with_reducible exact LeO.none _)
      | (with_reducible refine LeO.ite ?_ ?_)
      | (with_reducible refine LeO.bind ?_ (fun _ => ?_))
      | exact ih0 _ _ _
      | exact ih1 _ _ _
      | exact ih2 _ _
      | exact vitrineref04_Unsix.mono _ _
      | exact LeO.none _
      | refine LeO.ite ?_ ?_
      | refine LeO.bind ?_ (fun _ => ?_)
    · intro y0 y1 y2
      unfold vitrineref04_Decode.j1
      repeat' first
      | (with_reducible exact ih0 _ _ _)
      | (with_reducible exact ih1 _ _ _)
      | (with_reducible exact ih2 _ _)
      | (with_reducible exact vitrineref04_Unsix.mono _ _)
      | (with_reducible exact LeO.refl _)
      | (with_reducible exact LeO.none _)
      | (with_reducible refine LeO.ite ?_ ?_)
      | (with_reducible refine LeO.bind ?_ (fun _ => ?_))
      | exact ih0 _ _ _
      | exact ih1 _ _ _
      | exact ih2 _ _
      | exact vitrineref04_Unsix.mono _ _
      | exact LeO.none _
      | refine LeO.ite ?_ ?_
      | refine LeO.bind ?_ (fun _ => ?_)
    · intro y0 y1
      unfold vitrineref04_Decode.j2
      repeat' first
      | (with_reducible exact ih0 _ _ _)
      | (with_reducible exact ih1 _ _ _)
      | (with_reducible exact ih2 _ _)
      | (with_reducible exact vitrineref04_Unsix.mono _ _)
      | (with_reducible exact LeO.refl _)
      | (with_reducible exact LeO.none _)
      | (with_reducible refine LeO.ite ?_ ?_)
      | (with_reducible refine LeO.bind ?_ (fun _ => ?_))
      | exact ih0 _ _ _
      | exact ih1 _ _ _
      | exact ih2 _ _
      | exact vitrineref04_Unsix.mono _ _
      | exact LeO.none _
      | refine LeO.ite ?_ ?_
      | refine LeO.bind ?_ (fun _ => ?_)
theorem vitrineref04_Decode.mono : ∀ a0 a1 k, LeO (vitrineref04_Decode.f k a0 a1) (vitrineref04_Decode.f (k + 1) a0 a1) := by
  intro a0 a1 k
  obtain ⟨ih0, ih1, ih2⟩ := vitrineref04_Decode.mono_l k
  unfold vitrineref04_Decode.f
  repeat' first
      | (with_reducible exact ih0 _ _ _)
      | (with_reducible exact ih1 _ _ _)
      | (with_reducible exact ih2 _ _)
      | (with_reducible exact vitrineref04_Unsix.mono _ _)
      | (with_reducible exact LeO.refl _)
      | (with_reducible exact LeO.none _)
      | (with_reducible refine LeO.ite ?_ ?_)
      | (with_reducible refine LeO.bind ?_ (fun _ => ?_))
      | exact ih0 _ _ _
      | exact ih1 _ _ _
      | exact ih2 _ _
      | exact vitrineref04_Unsix.mono _ _
      | exact LeO.none _
      | refine LeO.ite ?_ ?_
      | refine LeO.bind ?_ (fun _ => ?_)
set_option maxHeartbeats 8000000 in
set_option maxRecDepth 100000 in
theorem vitrineref04_Decode.calls (k : Nat) (a0 : Int) (A1 : Option Addr) (c1 : Nat) (l1 : List Int) (r1 : Int) (r2 : Int) (w : World) (hr1 : Kd.C (Kd.int .u8) w A1 l1.length l1) (hc1 : l1.length ≤ c1) (h : vitrineref04_Decode.f k a0 l1 = some (r1, r2)) :
    Calls Try.prog 41 #[.int .i64 a0, .slice A1 l1.length c1] w fun e w' => e = .returned (.tuple #[.int .i64 r1, .int .i64 r2]) ∧ Drawn0 w w' := by
  have HR1 := Aside0.mk hr1
  have HC1 := Aside0.mk hc1
  clear hr1 hc1
  have H : (if a0 = 12 then (vitrineref04_Decode.j0 k a0 l1 false) else (if a0 = 14 then (vitrineref04_Decode.j0 k a0 l1 false) else (vitrineref04_Decode.j0 k a0 l1 (a0 != 16)))) = some (r1, r2) := h
  clear h
  have HC3 := Aside0.mk H
  clear H
  go_enter Try.func41, Try.ntmps41
  go_upto_region 1 with (fail)
  repeat (go_quiet (fail); go_upto_region 1 with (fail))
  go_cut [16] (fun v16 wc => ∃ (kq : Nat) (x16_2 : Bool), v16 = .bool x16_2 ∧ Aside0 (vitrineref04_Decode.j0 kq a0 l1 x16_2 = some (r1, r2)) ∧ Aside0 (kq ≤ k) ∧ Drawn0 w wc)
  case first =>
    have H := HC3.out
    clear HC3
    by_cases c4 : a0 = 12
    · rw [if_pos c4] at H
      have c4b0 : (a0 == 12) = true := beq_iff_eq.mpr c4
      have c4b1 : (a0 != 12) = false := bne_eq_false_iff_eq.mpr c4
      clear c4
      (first | rw [c4b0] | (simp only [i64_w, i32_w]; rw [c4b0]) | skip)
      have H' := Aside0.mk H
      clear H
      go_wp2
      repeat (go_quiet (fail); try go_wp2)
      go_meet
      case rel => exact ⟨_, (false), (by first | rfl | (simp; done) | (simp [*]; done)), H', ⟨by first | omega | exact Nat.le_refl _⟩, by repeat (first | exact Drawn0.refl _ | apply Drawn0.step)⟩
    · rw [if_neg c4] at H
      have c4b0 : (a0 == 12) = false := beq_eq_false_iff_ne.mpr c4
      have c4b1 : (a0 != 12) = true := bne_iff_ne.mpr c4
      (first | rw [c4b0] | (simp only [i64_w, i32_w]; rw [c4b0]) | skip)
      by_cases c5 : a0 = 14
      · rw [if_pos c5] at H
        have c5b0 : (a0 == 14) = true := beq_iff_eq.mpr c5
        have c5b1 : (a0 != 14) = false := bne_eq_false_iff_eq.mpr c5
        clear c5
        have H' := Aside0.mk H
        clear H
        go_wp2
        repeat (go_quiet (fail); try go_wp2)
        go_meet
        case rel => exact ⟨_, (false), (by first | rfl | (simp; done) | (simp [*]; done)), H', ⟨by first | omega | exact Nat.le_refl _⟩, by repeat (first | exact Drawn0.refl _ | apply Drawn0.step)⟩
      · rw [if_neg c5] at H
        have c5b0 : (a0 == 14) = false := beq_eq_false_iff_ne.mpr c5
        have c5b1 : (a0 != 14) = true := bne_iff_ne.mpr c5
        have H' := Aside0.mk H
        clear H
        go_wp2
        repeat (go_quiet (fail); try go_wp2)
        go_meet
        case rel => exact ⟨_, ((a0 != 16)), (by first | rfl | (simp; done) | (simp [*]; done)), H', ⟨by first | omega | exact Nat.le_refl _⟩, by repeat (first | exact Drawn0.refl _ | apply Drawn0.step)⟩
  case rest =>
    clear HC3
    try clear c1
    try clear p2
    try clear c4
    try clear c4b0
    try clear c4b1
    try clear c5
    try clear c5b0
    try clear c5b1
    obtain ⟨kq, x16_2, rfl, HA, HJ2, ⟨mc2, rfl⟩⟩ := hcut
    cases kq with
    | zero => exact absurd HA.out (by simp [vitrineref04_Decode.j0])
    | succ kj2 =>
      have H := HA.out
      clear HA
      simp only [vitrineref04_Decode.j0] at H
      by_cases c6 : x16_2 = true
      · subst c6
        have H1 : (some (0, 1)) = some (r1, r2) := by rw [if_pos rfl] at H; exact H
        clear H
        have H := H1
        clear H1
        simp only [Option.some.injEq, Prod.mk.injEq] at H
        obtain ⟨rfl, rfl⟩ := H
        go_wp2
        repeat (go_quiet (fail); try go_wp2)
        go_ret2
        exact ⟨by first | rfl | (simp; done) | (simp [*]; done) | (simp only [i64_wrap64]; rfl), by repeat (first | exact Drawn0.refl _ | apply Drawn0.step)⟩
      · replace c6 := Bool.eq_false_iff.mpr c6
        subst c6
        have H1 : (if (l1.length : Int) < 2 then (some (0, 2)) else (if 0 < (l1.length : Int) then (if 1 < (l1.length : Int) then (if a0 = 16 then (vitrineref04_Decode.j1 kj2 l1 (wrap64 ((wrap64 (256 * (wrap64 (rd l1 0)))) + (wrap64 (rd l1 1)))) true) else (vitrineref04_Decode.j1 kj2 l1 (wrap64 ((wrap64 (256 * (wrap64 (rd l1 0)))) + (wrap64 (rd l1 1)))) (decide ((rd l1 0) < 64)))) else (none)) else (none))) = some (r1, r2) := by rw [if_neg (show ¬ (false = true) by decide)] at H; exact H
        clear H
        have H := H1
        clear H1
        by_cases c7 : (l1.length : Int) < 2
        · rw [if_pos c7] at H
          have c7b0 : decide ((l1.length : Int) < 2) = true := decide_eq_true c7
          have c7b1 : decide (l1.length < 2) = true := decide_eq_true (by omega)
          clear c7
          simp only [Option.some.injEq, Prod.mk.injEq] at H
          obtain ⟨rfl, rfl⟩ := H
          go_wp2
          repeat (go_quiet (fail); try go_wp2)
          go_ret2
          exact ⟨by first | rfl | (simp; done) | (simp [*]; done) | (simp only [i64_wrap64]; rfl), by repeat (first | exact Drawn0.refl _ | apply Drawn0.step)⟩
        · rw [if_neg c7] at H
          have c7b0 : decide ((l1.length : Int) < 2) = false := decide_eq_false c7
          have c7b1 : decide (l1.length < 2) = false := decide_eq_false (by omega)
          clear c7
          by_cases c8 : 0 < (l1.length : Int)
          · rw [if_pos c8] at H
            have c8b0 : decide (0 < (l1.length : Int)) = true := decide_eq_true c8
            have c8b1 : decide (0 < l1.length) = true := decide_eq_true (by omega)
            clear c8
            by_cases c9 : 1 < (l1.length : Int)
            · rw [if_pos c9] at H
              have c9b0 : decide (1 < (l1.length : Int)) = true := decide_eq_true c9
              have c9b1 : decide (1 < l1.length) = true := decide_eq_true (by omega)
              clear c9
              have HC10 := Aside0.mk H
              clear H
              have p192 : 0 ≤ (0 : Int) := (by omega)
              have q192 : 0 < (l1.length : Int) := of_decide_eq_true (by first | (with_reducible assumption) | assumption)
              obtain ⟨ad192, e192, hx192_0⟩ := Kd.at_int HR1.out 0 p192 q192
              cases e192
              have qi192 : (0 < l1.length) = True := eq_true (by omega)
              (try rw [show ((0 : Int)).toNat = 0 from rfl] at hx192_0)
              (try rw [Addr.add_zero'] at hx192_0)
              replace p192 := eq_true p192
              replace q192 := eq_true q192
              have p193 : 0 ≤ (1 : Int) := (by omega)
              have q193 : 1 < (l1.length : Int) := of_decide_eq_true (by first | (with_reducible assumption) | assumption)
              obtain ⟨ad193, e193, hx193_0⟩ := Kd.at_int HR1.out 1 p193 q193
              obtain rfl : ad192 = ad193 := (by injection e193)
              (try simp only [show (1 : Int).toNat = 1 from rfl, Nat.reduceMul, Nat.reduceEqDiff, Go.Addr.add, ↓reduceIte] at hx193_0)
              have qi193 : (1 < l1.length) = True := eq_true (by omega)
              (try rw [show ((1 : Int)).toNat = 1 from rfl] at hx193_0)
              replace p193 := eq_true p193
              replace q193 := eq_true q193
              go_upto_region 6 with (fail)
              repeat (go_quiet (fail); go_upto_region 6 with (fail))
              go_cut [37] (fun v37 wc => ∃ (kq : Nat) (x37_9 : Bool), v37 = .bool x37_9 ∧ Aside0 (vitrineref04_Decode.j1 kq l1 (wrap64 ((wrap64 (256 * (wrap64 (rd l1 0)))) + (wrap64 (rd l1 1)))) x37_9 = some (r1, r2)) ∧ Aside0 (kq ≤ kj2) ∧ Drawn0 w wc)
              case first =>
                have H := HC10.out
                clear HC10
                by_cases c11 : a0 = 16
                · rw [if_pos c11] at H
                  have c11b0 : (a0 == 16) = true := beq_iff_eq.mpr c11
                  have c11b1 : (a0 != 16) = false := bne_eq_false_iff_eq.mpr c11
                  clear c11
                  (first | rw [c11b0] | (simp only [i64_w, i32_w]; rw [c11b0]) | skip)
                  have H' := Aside0.mk H
                  clear H
                  go_wp2
                  repeat (go_quiet (fail); try go_wp2)
                  go_meet
                  case rel => exact ⟨_, (true), (by first | rfl | (simp; done) | (simp [*]; done)), H', ⟨by have := HJ2.out; first | omega | exact Nat.le_refl _⟩, by repeat (first | exact Drawn0.refl _ | apply Drawn0.step)⟩
                · rw [if_neg c11] at H
                  have c11b0 : (a0 == 16) = false := beq_eq_false_iff_ne.mpr c11
                  have c11b1 : (a0 != 16) = true := bne_iff_ne.mpr c11
                  (first | rw [c11b0] | (simp only [i64_w, i32_w]; rw [c11b0]) | skip)
                  have H' := Aside0.mk H
                  clear H
                  have p194 : 0 ≤ (0 : Int) := (by omega)
                  have q194 : 0 < (l1.length : Int) := of_decide_eq_true (by first | (with_reducible assumption) | assumption)
                  obtain ⟨ad194, e194, hx194_0⟩ := Kd.at_int HR1.out 0 p194 q194
                  obtain rfl : ad192 = ad194 := (by injection e194)
                  have qi194 : (0 < l1.length) = True := eq_true (by omega)
                  (try rw [show ((0 : Int)).toNat = 0 from rfl] at hx194_0)
                  (try rw [Addr.add_zero'] at hx194_0)
                  replace p194 := eq_true p194
                  replace q194 := eq_true q194
                  go_wp2
                  repeat (go_quiet (fail); try go_wp2)
                  go_meet
                  case rel => exact ⟨_, (decide ((rd l1 0) < 64)), (by first | rfl | (simp; done) | (simp [*]; done)), H', ⟨by have := HJ2.out; first | omega | exact Nat.le_refl _⟩, by repeat (first | exact Drawn0.refl _ | apply Drawn0.step)⟩
              case rest =>
                clear HC10
                try clear c1
                try clear p1
                try clear q1
                try clear hx1
                try clear qi1
                try clear c2
                try clear p2
                try clear c4
                try clear c4b0
                try clear c4b1
                try clear c5
                try clear c5b0
                try clear c5b1
                try clear c6
                try clear p6
                try clear c7
                try clear c7b0
                try clear c7b1
                try clear c8
                try clear c8b0
                try clear c8b1
                try clear c9
                try clear c9b0
                try clear c9b1
                try clear c11
                try clear c11b0
                try clear c11b1
                try clear hx192_0
                try clear hx193_0
                try clear hx194_0
                try clear p192
                try clear p193
                try clear p194
                try clear p2
                try clear q192
                try clear q193
                try clear q194
                obtain ⟨kq, x37_9, rfl, HA, HJ9, ⟨mc9, rfl⟩⟩ := hcut
                cases kq with
                | zero => exact absurd HA.out (by simp [vitrineref04_Decode.j1])
                | succ kj9 =>
                  have H := HA.out
                  clear HA
                  simp only [vitrineref04_Decode.j1] at H
                  by_cases c12 : x37_9 = true
                  · subst c12
                    have H1 : (some ((wrap64 ((wrap64 (256 * (wrap64 (rd l1 0)))) + (wrap64 (rd l1 1)))), 0)) = some (r1, r2) := by rw [if_pos rfl] at H; exact H
                    clear H
                    have H := H1
                    clear H1
                    simp only [Option.some.injEq, Prod.mk.injEq] at H
                    obtain ⟨rfl, rfl⟩ := H
                    go_wp2
                    repeat (go_quiet (fail); try go_wp2)
                    go_ret2
                    exact ⟨by first | rfl | (simp; done) | (simp [*]; done) | (simp only [i64_wrap64]; rfl), by repeat (first | exact Drawn0.refl _ | apply Drawn0.step)⟩
                  · replace c12 := Bool.eq_false_iff.mpr c12
                    subst c12
                    have H1 : (if 0 < (l1.length : Int) then (if (rd l1 0) ≥ 128 then (vitrineref04_Decode.j2 kj9 l1 (decide ((rd l1 0) < 192))) else (vitrineref04_Decode.j2 kj9 l1 false)) else (none)) = some (r1, r2) := by rw [if_neg (show ¬ (false = true) by decide)] at H; exact H
                    clear H
                    have H := H1
                    clear H1
                    have HC13 := Aside0.mk H
                    clear H
                    go_upto_region 8 with (fail)
                    repeat (go_quiet (fail); go_upto_region 8 with (fail))
                    go_cut [48] (fun v48 wc => ∃ (kq : Nat) (x48_12 : Bool), v48 = .bool x48_12 ∧ Aside0 (vitrineref04_Decode.j2 kq l1 x48_12 = some (r1, r2)) ∧ Aside0 (kq ≤ kj9) ∧ Drawn0 w wc)
                    case first =>
                      have H := HC13.out
                      clear HC13
                      by_cases c14 : 0 < (l1.length : Int)
                      · rw [if_pos c14] at H
                        have c14b0 : decide (0 < (l1.length : Int)) = true := decide_eq_true c14
                        have c14b1 : decide (0 < l1.length) = true := decide_eq_true (by omega)
                        clear c14
                        (first | rw [c14b0] | (simp only [i64_w, i32_w]; rw [c14b0]) | skip)
                        by_cases c15 : (rd l1 0) ≥ 128
                        · rw [if_pos c15] at H
                          have c15b0 : decide (128 ≤ (rd l1 0)) = true := decide_eq_true c15
                          clear c15
                          have H' := Aside0.mk H
                          clear H
                          have p195 : 0 ≤ (0 : Int) := (by omega)
                          have q195 : 0 < (l1.length : Int) := of_decide_eq_true (by first | (with_reducible assumption) | assumption)
                          obtain ⟨ad195, e195, hx195_0⟩ := Kd.at_int HR1.out 0 p195 q195
                          obtain rfl : ad192 = ad195 := (by injection e195)
                          have qi195 : (0 < l1.length) = True := eq_true (by omega)
                          (try rw [show ((0 : Int)).toNat = 0 from rfl] at hx195_0)
                          (try rw [Addr.add_zero'] at hx195_0)
                          replace p195 := eq_true p195
                          replace q195 := eq_true q195
                          have p196 : 0 ≤ (0 : Int) := (by omega)
                          have q196 : 0 < (l1.length : Int) := of_decide_eq_true (by first | (with_reducible assumption) | assumption)
                          obtain ⟨ad196, e196, hx196_0⟩ := Kd.at_int HR1.out 0 p196 q196
                          obtain rfl : ad192 = ad196 := (by injection e196)
                          have qi196 : (0 < l1.length) = True := eq_true (by omega)
                          (try rw [show ((0 : Int)).toNat = 0 from rfl] at hx196_0)
                          (try rw [Addr.add_zero'] at hx196_0)
                          replace p196 := eq_true p196
                          replace q196 := eq_true q196
                          go_wp2
                          repeat (go_quiet (fail); try go_wp2)
                          go_meet
                          case rel => exact ⟨_, (decide ((rd l1 0) < 192)), (by first | rfl | (simp; done) | (simp [*]; done)), H', ⟨by have := HJ2.out; have := HJ9.out; first | omega | exact Nat.le_refl _⟩, by repeat (first | exact Drawn0.refl _ | apply Drawn0.step)⟩
                        · rw [if_neg c15] at H
                          have c15b0 : decide (128 ≤ (rd l1 0)) = false := decide_eq_false c15
                          clear c15
                          have H' := Aside0.mk H
                          clear H
                          have p195 : 0 ≤ (0 : Int) := (by omega)
                          have q195 : 0 < (l1.length : Int) := of_decide_eq_true (by first | (with_reducible assumption) | assumption)
                          obtain ⟨ad195, e195, hx195_0⟩ := Kd.at_int HR1.out 0 p195 q195
                          obtain rfl : ad192 = ad195 := (by injection e195)
                          have qi195 : (0 < l1.length) = True := eq_true (by omega)
                          (try rw [show ((0 : Int)).toNat = 0 from rfl] at hx195_0)
                          (try rw [Addr.add_zero'] at hx195_0)
                          replace p195 := eq_true p195
                          replace q195 := eq_true q195
                          go_wp2
                          repeat (go_quiet (fail); try go_wp2)
                          go_meet
                          case rel => exact ⟨_, (false), (by first | rfl | (simp; done) | (simp [*]; done)), H', ⟨by have := HJ2.out; have := HJ9.out; first | omega | exact Nat.le_refl _⟩, by repeat (first | exact Drawn0.refl _ | apply Drawn0.step)⟩
                      · rw [if_neg c14] at H
                        exact absurd H (by simp)
                    case rest =>
                      clear HC13
                      try clear c1
                      try clear p1
                      try clear q1
                      try clear hx1
                      try clear qi1
                      try clear c2
                      try clear p2
                      try clear c4
                      try clear c4b0
                      try clear c4b1
                      try clear c5
                      try clear c5b0
                      try clear c5b1
                      try clear c6
                      try clear p6
                      try clear c7
                      try clear c7b0
                      try clear c7b1
                      try clear c8
                      try clear c8b0
                      try clear c8b1
                      try clear c9
                      try clear c9b0
                      try clear c9b1
                      try clear c11
                      try clear c11b0
                      try clear c11b1
                      try clear c12
                      try clear c14
                      try clear c14b0
                      try clear c14b1
                      try clear c15
                      try clear c15b0
                      try clear hx192_0
                      try clear hx193_0
                      try clear hx194_0
                      try clear hx195_0
                      try clear hx196_0
                      try clear p1
                      try clear p192
                      try clear p193
                      try clear p194
                      try clear p195
                      try clear p196
                      try clear p2
                      try clear p6
                      try clear q1
                      try clear q192
                      try clear q193
                      try clear q194
                      try clear q195
                      try clear q196
                      obtain ⟨kq, x48_12, rfl, HA, HJ12, ⟨mc12, rfl⟩⟩ := hcut
                      cases kq with
                      | zero => exact absurd HA.out (by simp [vitrineref04_Decode.j2])
                      | succ kj12 =>
                        have H := HA.out
                        clear HA
                        simp only [vitrineref04_Decode.j2] at H
                        by_cases c16 : x48_12 = true
                        · subst c16
                          have H1 : (some (0, 9)) = some (r1, r2) := by rw [if_pos rfl] at H; exact H
                          clear H
                          have H := H1
                          clear H1
                          simp only [Option.some.injEq, Prod.mk.injEq] at H
                          obtain ⟨rfl, rfl⟩ := H
                          go_wp2
                          repeat (go_quiet (fail); try go_wp2)
                          go_ret2
                          exact ⟨by first | rfl | (simp; done) | (simp [*]; done) | (simp only [i64_wrap64]; rfl), by repeat (first | exact Drawn0.refl _ | apply Drawn0.step)⟩
                        · replace c16 := Bool.eq_false_iff.mpr c16
                          subst c16
                          have H1 : (if 0 < (l1.length : Int) then ((vitrineref04_Unsix.f kj12 (rd l1 0)).bind fun t198 => (if 1 < (l1.length : Int) then ((vitrineref04_Unsix.f kj12 (rd l1 1)).bind fun t200 => (some (wrap64 ((wrap64 (64 * t198)) + t200), 0))) else (none))) else (none)) = some (r1, r2) := by rw [if_neg (show ¬ (false = true) by decide)] at H; exact H
                          clear H
                          have H := H1
                          clear H1
                          by_cases c17 : 0 < (l1.length : Int)
                          · rw [if_pos c17] at H
                            have c17b0 : decide (0 < (l1.length : Int)) = true := decide_eq_true c17
                            have c17b1 : decide (0 < l1.length) = true := decide_eq_true (by omega)
                            clear c17
                            replace H := Option.bind_eq_some_iff.mp H
                            obtain ⟨t198, A180, H⟩ := H
                            replace H : (if 1 < (l1.length : Int) then ((vitrineref04_Unsix.f kj12 (rd l1 1)).bind fun t200 => (some (wrap64 ((wrap64 (64 * t198)) + t200), 0))) else (none)) = some (r1, r2) := H
                            have A18 := Aside0.mk A180
                            clear A180
                            by_cases c19 : 1 < (l1.length : Int)
                            · rw [if_pos c19] at H
                              have c19b0 : decide (1 < (l1.length : Int)) = true := decide_eq_true c19
                              have c19b1 : decide (1 < l1.length) = true := decide_eq_true (by omega)
                              clear c19
                              replace H := Option.bind_eq_some_iff.mp H
                              obtain ⟨t200, A200, H⟩ := H
                              replace H : (some (wrap64 ((wrap64 (64 * t198)) + t200), 0)) = some (r1, r2) := H
                              have A20 := Aside0.mk A200
                              clear A200
                              simp only [Option.some.injEq, Prod.mk.injEq] at H
                              obtain ⟨rfl, rfl⟩ := H
                              have p197 : 0 ≤ (0 : Int) := (by omega)
                              have q197 : 0 < (l1.length : Int) := of_decide_eq_true (by first | (with_reducible assumption) | assumption)
                              obtain ⟨ad197, e197, hx197_0⟩ := Kd.at_int HR1.out 0 p197 q197
                              obtain rfl : ad192 = ad197 := (by injection e197)
                              have qi197 : (0 < l1.length) = True := eq_true (by omega)
                              (try rw [show ((0 : Int)).toNat = 0 from rfl] at hx197_0)
                              (try rw [Addr.add_zero'] at hx197_0)
                              replace p197 := eq_true p197
                              replace q197 := eq_true q197
                              go_wp2_with (first | (go_at_call 45; (with_reducible refine (vitrineref04_Unsix.calls kj12 (rd l1 0) t198 _ A18.out).mono ?_); rintro e w' ⟨rfl, ⟨nd, rfl⟩⟩; (try first | exact ⟨rfl, _, World.drewN_drewN _ _ _⟩ | exact ⟨rfl, _, Eq.trans (World.drewN_drewN _ _ _) (congrArg (World.drewN _) (Nat.add_assoc _ _ _))⟩); have p199 : 0 ≤ (1 : Int) := (by omega); have q199 : 1 < (l1.length : Int) := of_decide_eq_true (by first | (with_reducible assumption) | assumption); obtain ⟨ad199, e199, hx199_0⟩ := Kd.at_int HR1.out 1 p199 q199; obtain rfl : ad192 = ad199 := (by injection e199); (try simp only [show (1 : Int).toNat = 1 from rfl, Nat.reduceMul, Nat.reduceEqDiff, Go.Addr.add, ↓reduceIte] at hx199_0); have qi199 : (1 < l1.length) = True := eq_true (by omega); (try rw [show ((1 : Int)).toNat = 1 from rfl] at hx199_0); replace p199 := eq_true p199; replace q199 := eq_true q199) | (go_at_call 45; (with_reducible refine (vitrineref04_Unsix.calls kj12 (rd l1 1) t200 _ A20.out).mono ?_); rintro e w' ⟨rfl, ⟨nd, rfl⟩⟩; (try first | exact ⟨rfl, _, World.drewN_drewN _ _ _⟩ | exact ⟨rfl, _, Eq.trans (World.drewN_drewN _ _ _) (congrArg (World.drewN _) (Nat.add_assoc _ _ _))⟩)))
                              repeat (go_quiet (first | (go_at_call 45; (with_reducible refine (vitrineref04_Unsix.calls kj12 (rd l1 0) t198 _ A18.out).mono ?_); rintro e w' ⟨rfl, ⟨nd, rfl⟩⟩; (try first | exact ⟨rfl, _, World.drewN_drewN _ _ _⟩ | exact ⟨rfl, _, Eq.trans (World.drewN_drewN _ _ _) (congrArg (World.drewN _) (Nat.add_assoc _ _ _))⟩); have p199 : 0 ≤ (1 : Int) := (by omega); have q199 : 1 < (l1.length : Int) := of_decide_eq_true (by first | (with_reducible assumption) | assumption); obtain ⟨ad199, e199, hx199_0⟩ := Kd.at_int HR1.out 1 p199 q199; obtain rfl : ad192 = ad199 := (by injection e199); (try simp only [show (1 : Int).toNat = 1 from rfl, Nat.reduceMul, Nat.reduceEqDiff, Go.Addr.add, ↓reduceIte] at hx199_0); have qi199 : (1 < l1.length) = True := eq_true (by omega); (try rw [show ((1 : Int)).toNat = 1 from rfl] at hx199_0); replace p199 := eq_true p199; replace q199 := eq_true q199) | (go_at_call 45; (with_reducible refine (vitrineref04_Unsix.calls kj12 (rd l1 1) t200 _ A20.out).mono ?_); rintro e w' ⟨rfl, ⟨nd, rfl⟩⟩; (try first | exact ⟨rfl, _, World.drewN_drewN _ _ _⟩ | exact ⟨rfl, _, Eq.trans (World.drewN_drewN _ _ _) (congrArg (World.drewN _) (Nat.add_assoc _ _ _))⟩))); try go_wp2_with (first | (go_at_call 45; (with_reducible refine (vitrineref04_Unsix.calls kj12 (rd l1 0) t198 _ A18.out).mono ?_); rintro e w' ⟨rfl, ⟨nd, rfl⟩⟩; (try first | exact ⟨rfl, _, World.drewN_drewN _ _ _⟩ | exact ⟨rfl, _, Eq.trans (World.drewN_drewN _ _ _) (congrArg (World.drewN _) (Nat.add_assoc _ _ _))⟩); have p199 : 0 ≤ (1 : Int) := (by omega); have q199 : 1 < (l1.length : Int) := of_decide_eq_true (by first | (with_reducible assumption) | assumption); obtain ⟨ad199, e199, hx199_0⟩ := Kd.at_int HR1.out 1 p199 q199; obtain rfl : ad192 = ad199 := (by injection e199); (try simp only [show (1 : Int).toNat = 1 from rfl, Nat.reduceMul, Nat.reduceEqDiff, Go.Addr.add, ↓reduceIte] at hx199_0); have qi199 : (1 < l1.length) = True := eq_true (by omega); (try rw [show ((1 : Int)).toNat = 1 from rfl] at hx199_0); replace p199 := eq_true p199; replace q199 := eq_true q199) | (go_at_call 45; (with_reducible refine (vitrineref04_Unsix.calls kj12 (rd l1 1) t200 _ A20.out).mono ?_); rintro e w' ⟨rfl, ⟨nd, rfl⟩⟩; (try first | exact ⟨rfl, _, World.drewN_drewN _ _ _⟩ | exact ⟨rfl, _, Eq.trans (World.drewN_drewN _ _ _) (congrArg (World.drewN _) (Nat.add_assoc _ _ _))⟩))))
                              go_ret2
                              exact ⟨by first | rfl | (simp; done) | (simp [*]; done) | (simp only [i64_wrap64]; rfl), by repeat (first | exact Drawn0.refl _ | apply Drawn0.step)⟩
                            · rw [if_neg c19] at H
                              exact absurd H (by simp)
                          · rw [if_neg c17] at H
                            exact absurd H (by simp)
            · rw [if_neg c9] at H
              exact absurd H (by simp)
          · rw [if_neg c8] at H
            exact absurd H (by simp)


end Go.Proofs.Ytangandfgbnomaa.V
