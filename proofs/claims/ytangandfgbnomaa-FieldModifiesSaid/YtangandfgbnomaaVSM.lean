/- Is a space the document's? (law 13's same) -/
import Derived.Test.YtangandfgbnomaaVW
import Derived.Test.YtangandfgbnomaaVU
import Derived.Test.YtangandfgbnomaaVZ3
import Derived.Test.YtangandfgbnomaaVF2
namespace Go.Proofs.Ytangandfgbnomaa.V
open Go.RowKit
set_option linter.unusedVariables false
set_option linter.unusedSimpArgs false


set_option maxRecDepth 100000 in
set_option maxHeartbeats 4000000 in
theorem same118_calls {w : World} {p b q d : Nat} {s : S} (h : PSp w p b s) (h2 : RSp w q d s) (ok : s.ok) :
    Calls Try.prog 118 #[.pointer (some ⟨p, 0, none⟩), .pointer (some ⟨q, 0, none⟩)] w fun e w' => e = .returned (.bool true) ∧ Below w.heap.size w w' := by
  obtain ⟨cap, ex, hcap, b1, b2⟩ := id h2
  obtain ⟨_, _, hN, hN1⟩ := ok.ix 0
  have c64 : ∀ W, Keep [] w W → Calls Try.prog 64 #[.pointer (some ⟨p, 0, none⟩)] W fun e w' => e = .returned (.int .i64 s.cur) ∧ Below W.heap.size W w' := fun W k =>
    (cursor_calls (h.keep k (by simp) (by simp))).mono (fun e w' h => ⟨h.1, by rw [h.2]; exact Below.refl _ _⟩)
  have c102 : ∀ W, Keep [] w W → Calls Try.prog 102 #[.pointer (some ⟨p, 0, none⟩)] W fun e w' => e = .returned (.bool s.alt) ∧ Below W.heap.size W w' := fun W k =>
    (alternate_calls (h.keep k (by simp) (by simp))).mono (fun e w' h => ⟨h.1, by rw [h.2]; exact Below.refl _ _⟩)
  have y1 : ∀ W, Keep [] w W → W.cell? ⟨q, 1, none⟩ = some (.bool s.alt) := fun W k => (b1.keep k (by simp)).cell 1
  have y4 : ∀ W, Keep [] w W → W.cell? ⟨q, 4, none⟩ = some (.slice (some ⟨d, 0, none⟩) s.l.length cap) := fun W k => (b1.keep k (by simp)).cell 4
  have y5 : ∀ W, Keep [] w W → W.cell? ⟨q, 5, none⟩ = some (.int .i64 s.cur) := fun W k => (b1.keep k (by simp)).cell 5
  have Y4 := y4 w (Keep.refl _ _)
  have HH := Aside0.mk (And.intro h (And.intro h2 ok))
  obtain ⟨n, hn⟩ : ∃ n, s.l.length = n := ⟨_, rfl⟩
  have HN := Aside0.mk hn
  rw [hn] at hN hN1 y4 Y4 hcap
  clear h h2 b1 b2 ok hn
  go_enter Try.func118, Try.ntmps118
  go_wp2_with fail
  clear Y4
  go_loopg [12] n (fun kq v12 w' => ∃ i : Nat, v12 = .int .i64 i ∧ Aside0 (kq = n - i ∧ i ≤ n) ∧ Aside0 (Keep [] w w'))
  case atStart => exact ⟨0, rfl, ⟨rfl, Nat.zero_le _⟩, ⟨Keep.refl _ _⟩⟩
  case round =>
    obtain ⟨i, rfl, HR, HK⟩ := hrel
    obtain ⟨hi1, hi2⟩ := HR.out
    by_cases hc : (i : Int) < (n : Int)
    · have hcb : decide ((i : Int) < (n : Int)) = true := decide_eq_true hc
      have hin : i < n := by omega
      have hil : i < s.l.length := by rw [HN.out]; exact hin
      have hi0 : (0 : Int) ≤ (i : Int) := by omega
      obtain ⟨c, hc'⟩ : ∃ c, s.l.getD i C.zero = c := ⟨_, rfl⟩
      obtain ⟨x0, x1, x2, x3, x4, x5⟩ := HH.out.2.1.six i hil c hc'
      have X0 := x0 _ HK.out
      have X1 := x1 _ HK.out
      have X2 := x2 _ HK.out
      have X3 := x3 _ HK.out
      have X4 := x4 _ HK.out
      have X5 := x5 _ HK.out
      have nb := Blk.new wr [.int .u8 c.ch, .bool c.at_, .int .u8 c.fa, .int .u8 c.hi, .int .u8 c.co, .int .u8 c.se] 60
      have q58 : ∀ U, Keep [] w U → Calls Try.prog 58 #[.pointer (some ⟨p, 0, none⟩), .int .i64 (i : Int)] U fun e w' => e = .returned (.agg #[.int .u8 c.ch, .bool c.at_, .int .u8 c.fa, .int .u8 c.hi, .int .u8 c.co, .int .u8 c.se]) ∧ Below U.heap.size U w' := fun U k => by
        have := at_calls (HH.out.1.keep k (by simp) (by simp)) HH.out.2.2 (i : Int)
        rw [S.get_self HH.out.2.2 hil, hc'] at this; exact this
      have hnn : ∀ W, Sem.run Try.prog (binOp .neq 60 (.agg #[.int .u8 c.ch, .bool c.at_, .int .u8 c.fa, .int .u8 c.hi, .int .u8 c.co, .int .u8 c.se]) (.agg #[.int .u8 c.ch, .bool c.at_, .int .u8 c.fa, .int .u8 c.hi, .int .u8 c.co, .int .u8 c.se])) W = .ok (.bool false) W := fun W => by rw [cell_neC, C.eqb_self]; rfl
      have ka := HK.out.alloc (.cells #[.int .u8 c.ch, .bool c.at_, .int .u8 c.fa, .int .u8 c.hi, .int .u8 c.co, .int .u8 c.se] 60)
      have hwe1 : wrap64 ((i : Int) + 1) = ((i + 1 : Nat) : Int) := by unfold wrap64; omega
      have WEi := Aside0.mk hwe1
      have NB := Aside0.mk nb
      have KA := Aside0.mk ka
      clear x0 x1 x2 x3 x4 x5 hc' hwe1 nb ka hil
      go_wp2_with fail
      have nb := NB.out
      have ka := KA.out
      clear NB KA X0 X1 X2 X3 X4 X5
      obtain ⟨B, hB⟩ : ∃ B, wr.heap.size = B := ⟨_, rfl⟩
      rw [hB] at nb ⊢
      generalize (wr.alloc (.cells #[.int .u8 c.ch, .bool c.at_, .int .u8 c.fa, .int .u8 c.hi, .int .u8 c.co, .int .u8 c.se] 60)) = V at *
      have z0 : ∀ U, Keep [] V U → U.cell? ⟨B, 0, none⟩ = some (.int .u8 c.ch) := fun U k => (nb.keep k (by simp)).cell 0
      have z1 : ∀ U, Keep [] V U → U.cell? ⟨B, 1, none⟩ = some (.bool c.at_) := fun U k => (nb.keep k (by simp)).cell 1
      have z2 : ∀ U, Keep [] V U → U.cell? ⟨B, 2, none⟩ = some (.int .u8 c.fa) := fun U k => (nb.keep k (by simp)).cell 2
      have z3 : ∀ U, Keep [] V U → U.cell? ⟨B, 3, none⟩ = some (.int .u8 c.hi) := fun U k => (nb.keep k (by simp)).cell 3
      have z4 : ∀ U, Keep [] V U → U.cell? ⟨B, 4, none⟩ = some (.int .u8 c.co) := fun U k => (nb.keep k (by simp)).cell 4
      have z5 : ∀ U, Keep [] V U → U.cell? ⟨B, 5, none⟩ = some (.int .u8 c.se) := fun U k => (nb.keep k (by simp)).cell 5
      have kd : ∀ W, Keep [] V.drew W → Keep [] V W := fun W k => (Keep.refl [] V).drew.trans k (by simp)
      have k58 : ∀ U, Keep [] V U → Calls Try.prog 58 #[.pointer (some ⟨p, 0, none⟩), .int .i64 (i : Int)] U fun e w' => e = .returned (.agg #[.int .u8 c.ch, .bool c.at_, .int .u8 c.fa, .int .u8 c.hi, .int .u8 c.co, .int .u8 c.se]) ∧ Below U.heap.size U w' := fun U k => q58 U (ka.trans k (by simp))
      have KA := Aside0.mk ka
      clear q58 nb ka hB
      apply wp_region_rel 39 [_, _, _, _, _] (by kernel_rfl) (by kernel_rfl) (Nat.le_refl _)
      case hO =>
        refine ⟨?o0, ?o1, ?o2, ?o3, ?o4, trivial⟩
        case o0 =>
          apply obl_val
          case hd => rfl
          intro a W hK hF hD
          have e0 : a.tmps.getD 0 undef = _ := hF.word 0 (by kernel_rfl)
          have hK := kd W hK
          refine ⟨rfl, ?_⟩
          (go_simp; with_reducible rfl)
        case o1 =>
          apply obl_val
          case hd => rfl
          intro a W hK hF hD
          have e5 : a.tmps.getD 5 undef = _ := hF.word 5 (by kernel_rfl)
          have hK := kd W hK
          refine ⟨rfl, ?_⟩
          (go_simp; with_reducible rfl)
        case o2 =>
          apply obl_quiet
          case hd => rfl
          intro a W hK hF hD
          have e17 : a.tmps.getD 17 undef = _ := hD.1
          have e18 : a.tmps.getD 18 undef = _ := hD.2.1
          refine ⟨rfl, ?_⟩
          apply enter_of
          case hr => (go_simp; first | exact ⟨rfl, rfl⟩ | rfl)
          case hc =>
            first
              | exact k58 W (kd W hK)
        case o3 =>
          apply obl_val
          case hd => rfl
          intro a W hK hF hD
          have e6 : a.tmps.getD 6 undef = _ := hF.word 6 (by kernel_rfl)
          have hK := kd W hK
          refine ⟨rfl, ?_⟩
          (go_simp; with_reducible rfl)
        case o4 =>
          apply obl_val
          case hd => rfl
          intro a W hK hF hD
          have e19 : a.tmps.getD 19 undef = _ := hD.1
          have e20 : a.tmps.getD 20 undef = _ := hD.2.1
          have hK := kd W hK
          refine ⟨rfl, ?_⟩
          (go_simp; with_reducible rfl)
      case hQ =>
        intro a W hK hF hD
        have e17 : a.tmps.getD 17 undef = _ := hD.1
        have e18 : a.tmps.getD 18 undef = _ := hD.2.1
        have e19 : a.tmps.getD 19 undef = _ := hD.2.2.1
        have e20 : a.tmps.getD 20 undef = _ := hD.2.2.2.1
        have e21 : a.tmps.getD 21 undef = _ := hD.2.2.2.2.1
        have e0 : a.tmps.getD 0 undef = _ := hF.word 0 (by kernel_rfl)
        have e1 : a.tmps.getD 1 undef = _ := hF.word 1 (by kernel_rfl)
        have e2 : a.tmps.getD 2 undef = _ := hF.word 2 (by kernel_rfl)
        have e3 : a.tmps.getD 3 undef = _ := hF.word 3 (by kernel_rfl)
        have e4 : a.tmps.getD 4 undef = _ := hF.word 4 (by kernel_rfl)
        have e5 : a.tmps.getD 5 undef = _ := hF.word 5 (by kernel_rfl)
        have e6 : a.tmps.getD 6 undef = _ := hF.word 6 (by kernel_rfl)
        have e7 : a.tmps.getD 7 undef = _ := hF.word 7 (by kernel_rfl)
        have e8 : a.tmps.getD 8 undef = _ := hF.word 8 (by kernel_rfl)
        have e9 : a.tmps.getD 9 undef = _ := hF.word 9 (by kernel_rfl)
        have e10 : a.tmps.getD 10 undef = _ := hF.word 10 (by kernel_rfl)
        have e11 : a.tmps.getD 11 undef = _ := hF.word 11 (by kernel_rfl)
        have e12 : a.tmps.getD 12 undef = _ := hF.word 12 (by kernel_rfl)
        have e13 : a.tmps.getD 13 undef = _ := hF.word 13 (by kernel_rfl)
        have e14 : a.tmps.getD 14 undef = _ := hF.word 14 (by kernel_rfl)
        have e15 : a.tmps.getD 15 undef = _ := hF.word 15 (by kernel_rfl)
        have e16 : a.tmps.getD 16 undef = _ := hF.word 16 (by kernel_rfl)
        have e22 : a.tmps.getD 22 undef = _ := hF.word 22 (by kernel_rfl)
        have e23 : a.tmps.getD 23 undef = _ := hF.word 23 (by kernel_rfl)
        have e24 : a.tmps.getD 24 undef = _ := hF.word 24 (by kernel_rfl)
        have e25 : a.tmps.getD 25 undef = _ := hF.word 25 (by kernel_rfl)
        have e26 : a.tmps.getD 26 undef = _ := hF.word 26 (by kernel_rfl)
        have e27 : a.tmps.getD 27 undef = _ := hF.word 27 (by kernel_rfl)
        have e28 : a.tmps.getD 28 undef = _ := hF.word 28 (by kernel_rfl)
        have e29 : a.tmps.getD 29 undef = _ := hF.word 29 (by kernel_rfl)
        have e30 : a.tmps.getD 30 undef = _ := hF.word 30 (by kernel_rfl)
        have e31 : a.tmps.getD 31 undef = _ := hF.word 31 (by kernel_rfl)
        have e32 : a.tmps.getD 32 undef = _ := hF.word 32 (by kernel_rfl)
        have e33 : a.tmps.getD 33 undef = _ := hF.word 33 (by kernel_rfl)
        have e34 : a.tmps.getD 34 undef = _ := hF.word 34 (by kernel_rfl)
        have e35 : a.tmps.getD 35 undef = _ := hF.word 35 (by kernel_rfl)
        have e36 : a.tmps.getD 36 undef = _ := hF.word 36 (by kernel_rfl)
        have e37 : a.tmps.getD 37 undef = _ := hF.word 37 (by kernel_rfl)
        have e38 : a.tmps.getD 38 undef = _ := hF.word 38 (by kernel_rfl)
        have ha := act_of (l := [_, _, _, _, _, _, _, _, _, _, _, _, _, _, _, _, _, _, _, _, _, _, _, _, _, _, _, _, _, _, _, _, _, _, _, _, _, _, _]) (by rw [hF.size]; rfl) hF.defers ⟨e0, e1, e2, e3, e4, e5, e6, e7, e8, e9, e10, e11, e12, e13, e14, e15, e16, e17, e18, e19, e20, e21, e22, e23, e24, e25, e26, e27, e28, e29, e30, e31, e32, e33, e34, e35, e36, e37, e38, trivial⟩
        clear hF hD e0 e1 e2 e3 e4 e5 e6 e7 e8 e9 e10 e11 e12 e13 e14 e15 e16 e17 e18 e19 e20 e21 e22 e23 e24 e25 e26 e27 e28 e29 e30 e31 e32 e33 e34 e35 e36 e37 e38
        subst ha
        have kW := kd W hK
        clear hK kd k58 z0 z1 z2 z3 z4 z5
        go_wp2
        go_roundg (n - (i + 1))
        case measure => omega
        case rel => exact ⟨i + 1, by first | rfl | (rw [WEi.out]), ⟨rfl, by omega⟩, ⟨KA.out.trans kW (by simp)⟩⟩
    · have hcb : decide ((i : Int) < (n : Int)) = false := decide_eq_false hc
      have kd : ∀ W, Keep [] wr.drew W → Keep [] w W := fun W k => HK.out.drew.trans k (by simp)
      clear y4
      go_wp2_with fail
      apply wp_region_rel 39 [_, _, _, _, _, _, _, _, _, _, _, _, _, _, _, _, _] (by kernel_rfl) (by kernel_rfl) (Nat.le_refl _)
      case hO =>
        refine ⟨?o0, ?o1, ?o2, ?o3, ?o4, ?o5, ?o6, ?o7, ?o8, ?o9, ?o10, ?o11, ?o12, ?o13, ?o14, ?o15, ?o16, trivial⟩
        case o0 =>
          apply obl_val
          case hd => rfl
          intro a W hK hF hD
          have e0 : a.tmps.getD 0 undef = _ := hF.word 0 (by kernel_rfl)
          have hK := kd W hK
          refine ⟨rfl, ?_⟩
          (go_simp; with_reducible rfl)
        case o1 =>
          apply obl_quiet
          case hd => rfl
          intro a W hK hF hD
          have e23 : a.tmps.getD 23 undef = _ := hD.1
          refine ⟨rfl, ?_⟩
          apply enter_of
          case hr => (go_simp; first | exact ⟨rfl, rfl⟩ | rfl)
          case hc =>
            first
              | exact c64 W (kd W hK)
              | exact c102 W (kd W hK)
        case o2 =>
          apply obl_val
          case hd => rfl
          intro a W hK hF hD
          have e1 : a.tmps.getD 1 undef = _ := hF.word 1 (by kernel_rfl)
          have hK := kd W hK
          refine ⟨rfl, ?_⟩
          (go_simp; with_reducible rfl)
        case o3 =>
          apply obl_val
          case hd => rfl
          intro a W hK hF hD
          have e25 : a.tmps.getD 25 undef = _ := hD.1
          have hK := kd W hK
          refine ⟨rfl, ?_⟩
          (go_simp; with_reducible rfl)
        case o4 =>
          apply obl_val
          case hd => rfl
          intro a W hK hF hD
          have e26 : a.tmps.getD 26 undef = _ := hD.1
          have hK := kd W hK
          refine ⟨rfl, ?_⟩
          (go_simp; with_reducible rfl)
        case o5 =>
          apply obl_val
          case hd => rfl
          intro a W hK hF hD
          have e27 : a.tmps.getD 27 undef = _ := hD.1
          have hK := kd W hK
          refine ⟨rfl, ?_⟩
          (go_simp; with_reducible rfl)
        case o6 =>
          apply obl_val
          case hd => rfl
          intro a W hK hF hD
          have e24 : a.tmps.getD 24 undef = _ := hD.1
          have e28 : a.tmps.getD 28 undef = _ := hD.2.1
          have hK := kd W hK
          refine ⟨rfl, ?_⟩
          (go_simp; with_reducible rfl)
        case o7 =>
          apply obl_val
          case hd => rfl
          intro a W hK hF hD
          have e29 : a.tmps.getD 29 undef = _ := hD.1
          have e24 : a.tmps.getD 24 undef = _ := hD.2.1
          have hK := kd W hK
          refine ⟨rfl, ?_⟩
          (go_simp; with_reducible rfl)
        case o8 =>
          apply obl_val
          case hd => rfl
          intro a W hK hF hD
          have e30 : a.tmps.getD 30 undef = _ := hD.1
          have e0 : a.tmps.getD 0 undef = _ := hF.word 0 (by kernel_rfl)
          have hK := kd W hK
          refine ⟨⟨_, e30, rfl⟩, ?_⟩
          (go_simp; with_reducible rfl)
        case o9 =>
          apply obl_quiet
          case hd => rfl
          intro a W hK hF hD
          have e31 : a.tmps.getD 31 undef = _ := hD.1
          have e30 : a.tmps.getD 30 undef = _ := hD.2.1
          refine ⟨⟨_, e30, rfl⟩, ?_⟩
          apply enter_of
          case hr => (go_simp; first | exact ⟨rfl, rfl⟩ | rfl)
          case hc =>
            first
              | exact c64 W (kd W hK)
              | exact c102 W (kd W hK)
        case o10 =>
          apply obl_val
          case hd => rfl
          intro a W hK hF hD
          have e30 : a.tmps.getD 30 undef = _ := hD.1
          have e1 : a.tmps.getD 1 undef = _ := hF.word 1 (by kernel_rfl)
          have hK := kd W hK
          refine ⟨⟨_, e30, rfl⟩, ?_⟩
          (go_simp; with_reducible rfl)
        case o11 =>
          apply obl_val
          case hd => rfl
          intro a W hK hF hD
          have e33 : a.tmps.getD 33 undef = _ := hD.1
          have e30 : a.tmps.getD 30 undef = _ := hD.2.1
          have hK := kd W hK
          refine ⟨⟨_, e30, rfl⟩, ?_⟩
          (go_simp; with_reducible rfl)
        case o12 =>
          apply obl_val
          case hd => rfl
          intro a W hK hF hD
          have e34 : a.tmps.getD 34 undef = _ := hD.1
          have e30 : a.tmps.getD 30 undef = _ := hD.2.1
          have hK := kd W hK
          refine ⟨⟨_, e30, rfl⟩, ?_⟩
          (go_simp; with_reducible rfl)
        case o13 =>
          apply obl_val
          case hd => rfl
          intro a W hK hF hD
          have e35 : a.tmps.getD 35 undef = _ := hD.1
          have e30 : a.tmps.getD 30 undef = _ := hD.2.1
          have hK := kd W hK
          refine ⟨⟨_, e30, rfl⟩, ?_⟩
          (go_simp; with_reducible rfl)
        case o14 =>
          apply obl_val
          case hd => rfl
          intro a W hK hF hD
          have e32 : a.tmps.getD 32 undef = _ := hD.1
          have e36 : a.tmps.getD 36 undef = _ := hD.2.1
          have e30 : a.tmps.getD 30 undef = _ := hD.2.2.1
          have hK := kd W hK
          refine ⟨⟨_, e30, rfl⟩, ?_⟩
          (go_simp; with_reducible rfl)
        case o15 =>
          apply obl_val
          case hd => rfl
          intro a W hK hF hD
          have e30 : a.tmps.getD 30 undef = _ := hD.1
          have e37 : a.tmps.getD 37 undef = _ := hD.2.1
          have hK := kd W hK
          refine ⟨rfl, ?_⟩
          (go_simp; with_reducible rfl)
        case o16 =>
          apply obl_val
          case hd => rfl
          intro a W hK hF hD
          have e38 : a.tmps.getD 38 undef = _ := hD.1
          have e32 : a.tmps.getD 32 undef = _ := hD.2.1
          have e23 : a.tmps.getD 23 undef = _ := hD.2.2.1
          have e24 : a.tmps.getD 24 undef = _ := hD.2.2.2.1
          have e25 : a.tmps.getD 25 undef = _ := hD.2.2.2.2.1
          have e26 : a.tmps.getD 26 undef = _ := hD.2.2.2.2.2.1
          have e27 : a.tmps.getD 27 undef = _ := hD.2.2.2.2.2.2.1
          have e28 : a.tmps.getD 28 undef = _ := hD.2.2.2.2.2.2.2.1
          have e29 : a.tmps.getD 29 undef = _ := hD.2.2.2.2.2.2.2.2.1
          have e30 : a.tmps.getD 30 undef = _ := hD.2.2.2.2.2.2.2.2.2.1
          have e31 : a.tmps.getD 31 undef = _ := hD.2.2.2.2.2.2.2.2.2.2.1
          have e33 : a.tmps.getD 33 undef = _ := hD.2.2.2.2.2.2.2.2.2.2.2.2.1
          have e34 : a.tmps.getD 34 undef = _ := hD.2.2.2.2.2.2.2.2.2.2.2.2.2.1
          have e35 : a.tmps.getD 35 undef = _ := hD.2.2.2.2.2.2.2.2.2.2.2.2.2.2.1
          have e36 : a.tmps.getD 36 undef = _ := hD.2.2.2.2.2.2.2.2.2.2.2.2.2.2.2.1
          have e37 : a.tmps.getD 37 undef = _ := hD.2.2.2.2.2.2.2.2.2.2.2.2.2.2.2.2.1
          have hK := kd W hK
          refine ⟨rfl, ?_⟩
          (go_simp; with_reducible rfl)
      case hQ =>
        intro a W hK hF hD
        have e23 : a.tmps.getD 23 undef = _ := hD.1
        have e24 : a.tmps.getD 24 undef = _ := hD.2.1
        have e25 : a.tmps.getD 25 undef = _ := hD.2.2.1
        have e26 : a.tmps.getD 26 undef = _ := hD.2.2.2.1
        have e27 : a.tmps.getD 27 undef = _ := hD.2.2.2.2.1
        have e28 : a.tmps.getD 28 undef = _ := hD.2.2.2.2.2.1
        have e29 : a.tmps.getD 29 undef = _ := hD.2.2.2.2.2.2.1
        have e30 : a.tmps.getD 30 undef = _ := hD.2.2.2.2.2.2.2.1
        have e31 : a.tmps.getD 31 undef = _ := hD.2.2.2.2.2.2.2.2.1
        have e32 : a.tmps.getD 32 undef = _ := hD.2.2.2.2.2.2.2.2.2.1
        have e33 : a.tmps.getD 33 undef = _ := hD.2.2.2.2.2.2.2.2.2.2.1
        have e34 : a.tmps.getD 34 undef = _ := hD.2.2.2.2.2.2.2.2.2.2.2.1
        have e35 : a.tmps.getD 35 undef = _ := hD.2.2.2.2.2.2.2.2.2.2.2.2.1
        have e36 : a.tmps.getD 36 undef = _ := hD.2.2.2.2.2.2.2.2.2.2.2.2.2.1
        have e37 : a.tmps.getD 37 undef = _ := hD.2.2.2.2.2.2.2.2.2.2.2.2.2.2.1
        have e38 : a.tmps.getD 38 undef = _ := hD.2.2.2.2.2.2.2.2.2.2.2.2.2.2.2.1
        have e4 : a.tmps.getD 4 undef = _ := hD.2.2.2.2.2.2.2.2.2.2.2.2.2.2.2.2.1
        have e0 : a.tmps.getD 0 undef = _ := hF.word 0 (by kernel_rfl)
        have e1 : a.tmps.getD 1 undef = _ := hF.word 1 (by kernel_rfl)
        have e2 : a.tmps.getD 2 undef = _ := hF.word 2 (by kernel_rfl)
        have e3 : a.tmps.getD 3 undef = _ := hF.word 3 (by kernel_rfl)
        have e5 : a.tmps.getD 5 undef = _ := hF.word 5 (by kernel_rfl)
        have e6 : a.tmps.getD 6 undef = _ := hF.word 6 (by kernel_rfl)
        have e7 : a.tmps.getD 7 undef = _ := hF.word 7 (by kernel_rfl)
        have e8 : a.tmps.getD 8 undef = _ := hF.word 8 (by kernel_rfl)
        have e9 : a.tmps.getD 9 undef = _ := hF.word 9 (by kernel_rfl)
        have e10 : a.tmps.getD 10 undef = _ := hF.word 10 (by kernel_rfl)
        have e11 : a.tmps.getD 11 undef = _ := hF.word 11 (by kernel_rfl)
        have e12 : a.tmps.getD 12 undef = _ := hF.word 12 (by kernel_rfl)
        have e13 : a.tmps.getD 13 undef = _ := hF.word 13 (by kernel_rfl)
        have e14 : a.tmps.getD 14 undef = _ := hF.word 14 (by kernel_rfl)
        have e15 : a.tmps.getD 15 undef = _ := hF.word 15 (by kernel_rfl)
        have e16 : a.tmps.getD 16 undef = _ := hF.word 16 (by kernel_rfl)
        have e17 : a.tmps.getD 17 undef = _ := hF.word 17 (by kernel_rfl)
        have e18 : a.tmps.getD 18 undef = _ := hF.word 18 (by kernel_rfl)
        have e19 : a.tmps.getD 19 undef = _ := hF.word 19 (by kernel_rfl)
        have e20 : a.tmps.getD 20 undef = _ := hF.word 20 (by kernel_rfl)
        have e21 : a.tmps.getD 21 undef = _ := hF.word 21 (by kernel_rfl)
        have e22 : a.tmps.getD 22 undef = _ := hF.word 22 (by kernel_rfl)
        have ha := act_of (l := [_, _, _, _, _, _, _, _, _, _, _, _, _, _, _, _, _, _, _, _, _, _, _, _, _, _, _, _, _, _, _, _, _, _, _, _, _, _, _]) (by rw [hF.size]; rfl) hF.defers ⟨e0, e1, e2, e3, e4, e5, e6, e7, e8, e9, e10, e11, e12, e13, e14, e15, e16, e17, e18, e19, e20, e21, e22, e23, e24, e25, e26, e27, e28, e29, e30, e31, e32, e33, e34, e35, e36, e37, e38, trivial⟩
        clear hF hD e0 e1 e2 e3 e4 e5 e6 e7 e8 e9 e10 e11 e12 e13 e14 e15 e16 e17 e18 e19 e20 e21 e22 e23 e24 e25 e26 e27 e28 e29 e30 e31 e32 e33 e34 e35 e36 e37 e38
        subst ha
        have kW := kd W hK
        clear hK kd c64 c102
        go_wp2
        go_ret
        exact ⟨by simp, kW.below⟩

end Go.Proofs.Ytangandfgbnomaa.V
