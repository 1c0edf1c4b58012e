/- The places between two: the list; the reference's Span. -/
import Derived.Test.YtangandfgbnomaaVA04
import Derived.Test.YtangandfgbnomaaVZ4
namespace Go.Proofs.Ytangandfgbnomaa.V
open Go.RowKit
set_option linter.unusedVariables false
set_option linter.unusedSimpArgs false

/-- The places between two, round the screen. -/
def spn (R C a b : Int) : List Int := (List.range (len R C a b).toNat).map (fun (i : Nat) => wrp R C (wrp R C a + (i : Int)))
theorem modz {x N : Int} (h : x % N = 0) (h1 : -N < x) (h2 : x < N) : x = 0 := by
  by_cases h3 : x < 0
  · have := Int.emod_eq_of_lt (show 0 ≤ x + N by omega) (show x + N < N by omega)
    rw [Int.add_emod_right] at this
    omega
  · have := Int.emod_eq_of_lt (show 0 ≤ x by omega) h2
    omega
theorem spn_ne {a b N : Int} {i : Nat} (hN : 0 < N) (h1 : 1 ≤ i) (h2 : (i : Int) < (if (b - a) % N = 0 then N else (b - a) % N)) : (a % N + i) % N ≠ b % N ∧ (a % N + i) % N ≠ a % N := by
  have hd0 := Int.emod_nonneg (b - a) (show N ≠ 0 by omega)
  have hd1 := Int.emod_lt_of_pos (b - a) hN
  have hlt : (i : Int) < N := by split at h2 <;> omega
  rw [Int.emod_add_emod]
  constructor
  · intro e
    have e2 := Int.emod_eq_emod_iff_emod_sub_eq_zero.1 e.symm
    rw [show b - (a + (i : Int)) = (b - a) - i by omega, ← Int.emod_sub_emod] at e2
    by_cases hz : (b - a) % N = 0
    · rw [hz] at e2
      have := modz e2 (by omega) (by omega)
      omega
    · rw [if_neg hz] at h2
      have := modz e2 (by omega) (by omega)
      omega
  · intro e
    have e2 := Int.emod_eq_emod_iff_emod_sub_eq_zero.1 e
    rw [show a + (i : Int) - a = i by omega] at e2
    have := modz e2 (by omega) hlt
    omega
theorem spn_end {a b N : Int} {i : Nat} (hN : 0 < N) (h2 : (i : Int) = (if (b - a) % N = 0 then N else (b - a) % N)) : (a % N + i) % N = b % N := by
  have hd0 := Int.emod_nonneg (b - a) (show N ≠ 0 by omega)
  rw [Int.emod_add_emod]
  refine (Int.emod_eq_emod_iff_emod_sub_eq_zero.2 ?_).symm
  rw [show b - (a + (i : Int)) = (b - a) - i by omega, ← Int.emod_sub_emod, h2]
  split
  · rename_i hz; rw [hz]; simp
  · simp
theorem spn_step {a N : Int} (i : Nat) : ((a % N + i) % N + 1) % N = (a % N + ((i + 1 : Nat) : Int)) % N := by
  rw [Int.emod_add_emod]
  congr 1
  omega

theorem IR.one (w : World) (base : Nat) (x : Int) (hb : base ≤ w.heap.size) : IR (w.alloc (.cells #[.int .i64 x] 3)) base (.slice (some ⟨w.heap.size, 0, none⟩) 1 1) [x] :=
  ⟨⟨rfl, .inr ⟨w.heap.size, 1, #[.int .i64 x], rfl, hb, (Blk.new w [.int .i64 x] 3), Nat.le_refl _, by unfold maxLen; omega, rfl, rfl⟩⟩, fun e => by simp at e⟩

set_option maxRecDepth 100000 in
set_option maxHeartbeats 4000000 in
theorem rspan_calls (R C a b : Int) (w : World) : Calls Try.prog 77 #[sz R C, .int .i64 a, .int .i64 b] w fun e w' => ∃ v, e = .returned v ∧ IR w' w.heap.size v (spn R C a b) ∧ Below w.heap.size w w' := by
  obtain ⟨i0, hi, hz0, hz1, hz2⟩ := info_parts info3'
  have k1 : Keep [] w (w.alloc (.cells #[.int .i64 R, .int .i64 C] 28)) := (Keep.refl [] w).alloc _
  have bb := Blk.new w [.int .i64 R, .int .i64 C] 28
  have g0 : ∀ W, Keep [] (w.alloc (.cells #[.int .i64 R, .int .i64 C] 28)) W → W.cell? ⟨w.heap.size, 0, none⟩ = some (.int .i64 R) := fun W k => (bb.keep k (by simp)).cell 0
  have g1 : ∀ W, Keep [] (w.alloc (.cells #[.int .i64 R, .int .i64 C] 28)) W → W.cell? ⟨w.heap.size, 1, none⟩ = some (.int .i64 C) := fun W k => (bb.keep k (by simp)).cell 1
  clear bb
  have hv := r_valid R C
  by_cases h : vld R C = true
  · have hp := vld_pos h
    rw [h] at hv
    have hce := r_cells R C
    rw [show cel R C = R * C by unfold cel; rw [if_pos h]] at hce
    have hre := fun n W => r_mod n (R * C) W (by omega) (by omega)
    have hwr := fun n W => r_wrap R C n W
    have hws : ∀ n, wrp R C n = n % (R * C) := fun n => by unfold wrp; rw [if_pos h]
    simp only [hws] at hwr
    obtain ⟨g, hg⟩ : ∃ g : Nat → Int, g = fun (i : Nat) => (a % (R * C) + (i : Int)) % (R * C) := ⟨_, rfl⟩
    obtain ⟨L, hL⟩ : ∃ L : Nat, (L : Int) = if (b - a) % (R * C) = 0 then R * C else (b - a) % (R * C) := by
      have := Int.emod_nonneg (b - a) (show R * C ≠ 0 by omega)
      split
      · exact ⟨(R * C).toNat, by omega⟩
      · exact ⟨((b - a) % (R * C)).toNat, by omega⟩
    have hspn : spn R C a b = (List.range L).map g := by
      unfold spn
      rw [show len R C a b = (L : Int) by unfold len; rw [if_pos h, hL], hg]
      simp only [hws, Int.toNat_natCast]
    obtain ⟨m, hm⟩ : ∃ m, R * C = m := ⟨_, rfl⟩
    rw [hm] at hce hL hp
    simp only [hm] at hre hwr hg
    have hL1 : 1 ≤ L ∧ (L : Int) ≤ m := by
      have h1 := Int.emod_nonneg (b - a) (show m ≠ 0 by omega)
      have h2 := Int.emod_lt_of_pos (b - a) (show 0 < m by omega)
      split at hL <;> omega
    have hne : ∀ i, 1 ≤ i → i < L → g i ≠ b % m ∧ g i ≠ a % m := fun i h1 h2 => by rw [hg]; exact spn_ne (by omega) h1 (by rw [← hL]; omega)
    have hend : g L = b % m := by rw [hg]; exact spn_end (by omega) hL
    have hst : ∀ i, (g i + 1) % m = g (i + 1) := fun i => by rw [hg]; exact spn_step i
    have hz : g 0 = a % m := by rw [hg]; show (a % m + ((0 : Nat) : Int)) % m = a % m; rw [Int.natCast_zero, Int.add_zero, Int.emod_emod]
    have hbd : ∀ i, 0 ≤ g i ∧ g i < m := fun i => by rw [hg]; exact ⟨Int.emod_nonneg _ (by omega), Int.emod_lt_of_pos _ (by omega)⟩
    have h48 : ∀ W x, Calls Try.prog 48 #[.agg #[.int .i64 R, .int .i64 C], .int .i64 x] W fun e w' => e = .returned (.int .i64 (x % m)) ∧ Below W.heap.size W w' := fun W x => hwr x W
    rw [hspn]
    have HS := Aside0.mk hst
    have HN := Aside0.mk hne
    have HB := Aside0.mk hbd
    have HE := Aside0.mk hend
    have HZ := Aside0.mk hz
    have HM := Aside0.mk (And.intro hp hL1)
    have h147 := fun W => hre (a % m + 1) W
    rw [← hz, hst 0] at h147
    rw [← hz] at hne
    have hwf := (show wrap64 (g 0 + 1) = g 0 + 1 by have := hbd 0; unfold wrap64; omega)
    obtain ⟨f, hf⟩ : ∃ f, a % m = f := ⟨_, rfl⟩
    obtain ⟨t, ht⟩ : ∃ t, b % m = t := ⟨_, rfl⟩
    rw [hf] at hz HN HZ
    rw [ht] at HE HN
    have q48a : ∀ W, Calls Try.prog 48 #[.agg #[.int .i64 R, .int .i64 C], .int .i64 a] W fun e w' => e = .returned (.int .i64 f) ∧ Below W.heap.size W w' := fun W => by have := h48 W a; rw [hf] at this; exact this
    have q48b : ∀ W, Calls Try.prog 48 #[.agg #[.int .i64 R, .int .i64 C], .int .i64 b] W fun e w' => e = .returned (.int .i64 t) ∧ Below W.heap.size W w' := fun W => by have := h48 W b; rw [ht] at this; exact this
    have hfz := HZ.out
    rw [hfz] at h147 hwf
    have HWF := Aside0.mk hwf
    clear hws hwr hg hL hspn hm hL1 hne hend hst hz hbd hp h48 hf ht hfz hwf h
    go_enter Try.func77, Try.ntmps77
    have e0 := g0 _ (Keep.refl [] _)
    have e1 := g1 _ (Keep.refl [] _)
    go_wp2_with (go_at_call 46; (with_reducible refine (hv _).mono ?_); rintro e w1 ⟨rfl, hb1⟩
                 have k2 := (Keep.refl [] (w.alloc (.cells #[.int .i64 R, .int .i64 C] 28))).call hb1)
    refine wp_quiet_all (K := fun W => Keep [] w1 W) (by kernel_rfl) (by kernel_rfl) (Keep.refl [] w1).drew ?_
    have j0 : ∀ W, Keep [] w1 W → W.cell? ⟨w.heap.size, 0, none⟩ = some (.int .i64 R) := fun W k => g0 W (k2.trans k (by simp))
    have j1 : ∀ W, Keep [] w1 W → W.cell? ⟨w.heap.size, 1, none⟩ = some (.int .i64 C) := fun W k => g1 W (k2.trans k (by simp))
    repeat (first
      | go_big_quiet_skip
      | (go_big_quiet_want; first
          | (go_big_quiet_op; first
              | go_big_quiet_on
              | (go_big_quiet_call ((intro hW; first
                  | exact Calls.mono (q48a _) (fun e W' h => ⟨h.1, hW.call h.2⟩)
                  | exact Calls.mono (q48b _) (fun e W' h => ⟨h.1, hW.call h.2⟩)))))
          | (apply quiet_of
             · (intro W hW
                have c0 := j0 W hW
                have c1 := j1 W hW
                go_simp
                with_reducible rfl)
             simp only [Act.put, List.setIfInBounds_toArray, List.set_cons_zero, List.set_cons_succ]
             go_big_quiet_on)))
    refine wpQuiet_nil ?_
    intro W3 k3
    have K3 := Aside0.mk (k2.trans k3 (by simp))
    have e0 := g0 _ (K3.out.alloc (.cells #[.int .i64 f] 3))
    have e1 := g1 _ (K3.out.alloc (.cells #[.int .i64 f] 3))
    have hwf := HWF.out
    have V1 := Aside0.mk (IR.one W3 (w.heap.size + 1) f (by have := K3.out.size; rw [World.size_alloc] at this; exact this))
    clear j0 j1 k2 k3
    go_wp2_with (first
      | (go_at_call 47; (with_reducible refine (hce _).mono ?_); rintro e w4 ⟨rfl, hb4⟩)
      | (go_at_call 146; (with_reducible refine (h147 _).mono ?_); rintro e w5 ⟨rfl, hb5⟩))
    have K5 := Aside0.mk (((K3.out.alloc (.cells #[.int .i64 f] 3)).call hb4).call hb5)
    have V5 := Aside0.mk ((V1.out.below hb4).below hb5)
    clear e0 e1 hwf hb4 hb5 h147 q48a q48b
    go_loopg [9, 10] (L - 1) (fun kq v9 v10 w' => ∃ i : Nat, v10 = .int .i64 (g i) ∧ Aside0 (kq = L - i ∧ 1 ≤ i ∧ i ≤ L) ∧ Aside0 (IR w' (w.heap.size + 1) v9 ((List.range i).map g)) ∧ Aside0 (Keep [] (w.alloc (.cells #[.int .i64 R, .int .i64 C] 28)) w'))
    case atStart => exact ⟨1, rfl, ⟨rfl, Nat.le_refl _, HM.out.2.1⟩, ⟨by rw [show (List.range 1).map g = [f] by rw [← HZ.out]; rfl]; exact V5.out⟩, K5⟩
    case round =>
      obtain ⟨i, rfl, HI, HV, HK⟩ := hrel
      obtain ⟨hi1, hi2, hi3⟩ := HI.out
      by_cases hc : i < L
      · obtain ⟨hn1, hn2⟩ := HN.out i hi2 hc
        have hb1 : (g i == t) = false := by simpa using hn1
        have hb2 : (g i == f) = false := by simpa using hn2
        have hb3 : (g i != t) = true := by simpa using hn1
        have hb4 : (g i != f) = true := by simpa using hn2
        have HVP := Aside0.mk HV.out
        have hlen : ((List.range i).map g).length = i := by simp
        have hsu : (List.range (i + 1)).map g = (List.range i).map g ++ [g i] := by rw [List.range_succ, List.map_append]; rfl
        obtain ⟨P, hP⟩ : ∃ P, (List.range i).map g = P := ⟨_, rfl⟩
        rw [hP] at hlen hsu HVP
        have HSU := Aside0.mk hsu
        have HLP := Aside0.mk hlen
        have h147 : ∀ W, Calls Try.prog 146 #[.int .i64 (g i + 1), .int .i64 m] W fun e w' => e = .returned (.int .i64 (g (i + 1))) ∧ Below W.heap.size W w' := fun W => by have := hre (g i + 1) W; rw [HS.out i] at this; exact this
        have HWG := Aside0.mk (show wrap64 (g i + 1) = g i + 1 by have := HB.out i; have := HM.out.1; unfold wrap64; omega)
        obtain ⟨x, hx⟩ : ∃ x, g i = x := ⟨_, rfl⟩
        have HX := Aside0.mk hx
        rw [hx] at hb1 hb2 hb3 hb4 hn1 hn2 h147 HSU HWG
        rw [hx]
        have hwg := HWG.out
        have NB := Aside0.mk (Blk.new wr [.int .i64 x] 3)
        have HV4 := Aside0.mk (HVP.out.alloc (.cells #[.int .i64 x] 3))
        have HKS := Aside0.mk HK.out.size
        clear hlen hsu hP HV hx
        go_wp2_with (first
          | (at_builtin; go_loud (refine wpList_append_own _ rfl _ _ 79 rfl (w.heap.size + 1) 3 i0 _ 1 8 Try.underlying79 hi hz0 hz1 hz2 rfl (by decide) _ P.length (P.map (Value.int .i64)) (by go_simp) HV4.out.1 ⟨wr.heap.size, 0, none⟩ 1 1 [.int .i64 x] (by go_simp) rfl (one_news NB.out) (by simp [Value.oneCell']) (by have := HLP.out; have := HM.out; unfold maxLen; omega) (by have := HLP.out; have := HM.out; omega) (by have := HKS.out; rw [World.size_alloc] at *; omega) ?_)
             intro v' w' hown hgrow hnn
             have k7 := grown_keep HV4.out hgrow (HK.out.alloc (.cells #[.int .i64 x] 3)) (by rw [World.size_alloc]; exact Nat.le_refl _)
             have e0 := g0 _ k7
             have e1 := g1 _ k7)
          | (go_at_call 47; (with_reducible refine (hce _).mono ?_); rintro e w4 ⟨rfl, hb4⟩)
          | (go_at_call 146; (with_reducible refine (h147 _).mono ?_); rintro e w5 ⟨rfl, hb5⟩))
        go_roundg (L - (i + 1))
        case measure => omega
        case rel =>
          refine ⟨i + 1, rfl, ⟨rfl, by omega⟩, ⟨?_⟩, ⟨(k7.call hb4).call hb5⟩⟩
          rw [HSU.out]
          exact ((IR.push hown).below hb4).below hb5
      · have hil : i = L := by omega
        subst hil
        rw [show g i = t from HE.out]
        have KF := Aside0.mk (k1.trans HK.out (by simp))
        go_wp2
        go_ret
        exact ⟨_, rfl, HV.out.lower (by omega), KF.out.below⟩
  · have h' : vld R C = false := by simpa using h
    rw [h'] at hv
    have hspn : spn R C a b = [] := by unfold spn; rw [show len R C a b = 0 by unfold len; rw [if_neg h]]; rfl
    rw [hspn]
    have e0 := g0 _ (Keep.refl [] _)
    have e1 := g1 _ (Keep.refl [] _)
    have HK1 := Aside0.mk k1
    clear h h' hspn k1
    go_enter Try.func77, Try.ntmps77
    go_wp2_with (go_at_call 46; (with_reducible refine (hv _).mono ?_); rintro e w1 ⟨rfl, hb1⟩)
    go_ret
    exact ⟨_, rfl, IR.nil _ _, (HK1.out.call hb1).below⟩

end Go.Proofs.Ytangandfgbnomaa.V
