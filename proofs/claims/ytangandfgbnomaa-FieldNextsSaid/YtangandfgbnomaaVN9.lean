/- The walk of the law FieldNexts. -/
import Derived.Test.YtangandfgbnomaaVA13
import Derived.Test.YtangandfgbnomaaVZ5
namespace Go.Proofs.Ytangandfgbnomaa.V
open Go.RowKit
set_option linter.unusedVariables false
set_option linter.unusedSimpArgs false



set_option maxRecDepth 100000 in
set_option maxHeartbeats 4000000 in
theorem nexts_walk {w : World} (mo : Int) (hmo : 0 ≤ mo ∧ mo < 256) (ta : Option Addr) (cap : Nat) (us : List Ac) (hA : Acts w ta us) (hul : us.length ≤ maxLen) (tb : Option Addr) (capb : Nat) (l : List Int) (hI : Ints w tb l) (hl : l.length ≤ maxLen) :
    Calls Try.prog 9 #[.int .u8 mo, .slice ta us.length cap, .slice tb l.length capb] w fun e w' => e = .returned (.bool true) ∧ Below w.heap.size w w' := by
  have hok := acts_ok hA (show 2 ≤ 2 + mo % 4 ∧ 2 + mo % 4 ≤ 5 by omega) 30
  have hlay : ∀ W, Keep [] w W → Calls Try.prog 68 #[.int .u8 mo, .slice ta us.length cap] W fun e w' => ∃ p b q d, e = .returned (.tuple #[.pointer (some ⟨p, 0, none⟩), .pointer (some ⟨q, 0, none⟩)]) ∧ (W.heap.size ≤ p ∧ W.heap.size ≤ b ∧ W.heap.size ≤ q ∧ W.heap.size ≤ d) ∧
      Two w' p b q d ((S.clr (2 + mo % 4) false).acts (us.take 30)) ∧ Keep [] W w' := fun W k => lay68 mo hmo ta cap us (hA.keep k) hul
  generalize (S.clr (2 + mo % 4) false).acts (us.take 30) = X at *
  have hl2 : l.length ≤ 9223372036854775807 := hl
  have HO := Aside0.mk hok
  have HI := Aside0.mk hI
  have k0 : Keep [] w w := Keep.refl _ _
  obtain ⟨n, hn⟩ : ∃ n, l.length = n := ⟨_, rfl⟩
  have HN := Aside0.mk hn
  rw [hn] at hl2 ⊢
  have HL2 := Aside0.mk hl2
  clear hA hul hI hl hok hmo hn hl2
  go_enter Try.func9, Try.ntmps9
  go_wp2_with (first
    | (go_at_call 67; (with_reducible refine (awake13 _).mono ?_); rintro e w1 ⟨rfl, hb1⟩; have k1 := k0.call hb1)
    | (go_at_call 68; (with_reducible refine (hlay _ k1).mono ?_); rintro e w2 ⟨p, b, q, d, rfl, hge, hT, hk⟩
       have HT := Aside0.mk hT
       have HG := Aside0.mk hge
       have K2 := Aside0.mk (k1.trans hk (by simp))
       have HW1 := Aside0.mk k1.size
       clear hge hk hT))
  go_loopg [23] n (fun kq v23 w' => ∃ i : Nat, v23 = .int .i64 i ∧ Aside0 (kq = n - i ∧ i ≤ n) ∧ Aside0 (Keep [] w2 w'))
  case atStart => exact ⟨0, rfl, ⟨rfl, Nat.zero_le _⟩, ⟨Keep.refl _ _⟩⟩
  case round =>
    obtain ⟨i, rfl, HR, HK⟩ := hrel
    obtain ⟨hi1, hi2⟩ := HR.out
    have hTr := HT.out.keep HK.out (by simp) (by simp) (by simp) (by simp)
    by_cases hc : (i : Int) < (n : Int)
    · have hcb : decide ((i : Int) < (n : Int)) = true := decide_eq_true hc
      have hin : i < n := by omega
      have hi0 : (0 : Int) ≤ (i : Int) := by omega
      obtain ⟨x, rfl, hcell⟩ := HI.out i (by rw [HN.out]; exact hin)
      have hci := hcell wr (K2.out.trans HK.out (by simp))
      generalize l.getD i 0 = y at *
      have hlt := (HO.out.ix y).2.1
      have q1 := next_calls hTr.1 HO.out y
      have q2 : ∀ W, Keep [] wr W → Calls Try.prog 70 #[.pointer (some ⟨p, 0, none⟩), .int .i64 y] W fun e w' => e = .returned (.int .i64 (nx X.l (X.ix y) true)) ∧ Below W.heap.size W w' := fun W k => prev_calls (hTr.1.keep k (by simp) (by simp)) HO.out y
      have q3 : ∀ W bk, Keep [] wr W → Calls Try.prog 71 #[.pointer (some ⟨q, 0, none⟩), .int .i64 y, .bool bk] W fun e w' => e = .returned (.int .i64 (nx X.l (X.ix y) bk)) ∧ Below W.heap.size W w' := fun W bk k => rnext_calls (hTr.2.1.keep k (by simp) (by simp)) HO.out y bk
      have q3a := fun W => q3 W false
      have q3b := fun W => q3 W true
      have qn : ∀ (m : Nat), m < X.l.length → ∀ W, Keep [] wr W → Calls Try.prog 69 #[.pointer (some ⟨p, 0, none⟩), .int .i64 m] W fun e w' => e = .returned (.int .i64 (nx X.l m false)) ∧ Below W.heap.size W w' := fun m hm W k => by
        have := next_calls (hTr.1.keep k (by simp) (by simp)) HO.out (m : Int)
        rw [HO.out.self hm] at this; exact this
      have qp : ∀ (m : Nat), m < X.l.length → ∀ W, Keep [] wr W → Calls Try.prog 70 #[.pointer (some ⟨p, 0, none⟩), .int .i64 m] W fun e w' => e = .returned (.int .i64 (nx X.l m true)) ∧ Below W.heap.size W w' := fun m hm W k => by
        have := prev_calls (hTr.1.keep k (by simp) (by simp)) HO.out (m : Int)
        rw [HO.out.self hm] at this; exact this
      have WE1 := Aside0.mk (show wrap64 ((i : Int) + 1) = ((i + 1 : Nat) : Int) by have := HL2.out; unfold wrap64; omega)
      have hn9 := HL2.out
      obtain ⟨B, hB⟩ : ∃ B, nx X.l (X.ix y) true = B := ⟨_, rfl⟩
      rw [hB] at q2 q3b
      have k0r : Keep [] wr wr := Keep.refl _ _
      clear hTr hcell q3 hB
      by_cases h8 : (8 : Int) ≤ (i : Int)
      · have h8b : decide ((8 : Int) ≤ (i : Int)) = true := decide_eq_true h8
        have HK2 := Aside0.mk (K2.out.trans HK.out (by simp))
        clear q1 q2 q3a q3b qn qp
        go_wp2
        go_ret
        exact ⟨rfl, HK2.out.below⟩
      · have h8b : decide ((8 : Int) ≤ (i : Int)) = false := decide_eq_false h8
        rcases nx_dom hlt false with hA | ⟨m, hA, hm, _⟩
        · rw [hA] at q1 q3a
          clear hA qn qp
          go_wp2_with (first
            | (go_at_call 69; (with_reducible refine q1.mono ?_); rintro e w3 ⟨rfl, hb3⟩; have k3 := k0r.call hb3)
            | (go_at_call 70; (with_reducible refine (q2 _ k3).mono ?_); rintro e w4 ⟨rfl, hb4⟩; have k4 := k3.call hb4)
            | (go_at_call 71; (with_reducible refine (q3a _ k4).mono ?_); rintro e w5 ⟨rfl, hb5⟩; have k5 := k4.call hb5)
            | (go_at_call 71; (with_reducible refine (q3b _ k5).mono ?_); rintro e w6 ⟨rfl, hb6⟩; have k6 := k5.call hb6))
          go_roundg (n - (i + 1))
          case measure => omega
          case rel => exact ⟨i + 1, by first | rfl | (rw [WE1.out]), ⟨rfl, by omega⟩, ⟨HK.out.trans k6 (by simp)⟩⟩
        · obtain ⟨m2, hm2, hp2, hn2⟩ := nx_back hlt hA
          have q4 := qp m hm
          have q5 := qn m2 hm2
          rw [hp2] at q4
          rw [hn2] at q5
          rw [hA] at q1 q3a
          have m0 : (0 : Int) ≤ (m : Int) := by omega
          clear hA qn qp hp2 hn2
          go_wp2_with (first
            | (go_at_call 69; (with_reducible refine q1.mono ?_); rintro e w3 ⟨rfl, hb3⟩; have k3 := k0r.call hb3)
            | (go_at_call 70; (with_reducible refine (q2 _ k3).mono ?_); rintro e w4 ⟨rfl, hb4⟩; have k4 := k3.call hb4; clear q1 q2)
            | (go_at_call 71; (with_reducible refine (q3a _ k4).mono ?_); rintro e w5 ⟨rfl, hb5⟩; have k5 := k4.call hb5)
            | (go_at_call 71; (with_reducible refine (q3b _ k5).mono ?_); rintro e w6 ⟨rfl, hb6⟩; have k6 := k5.call hb6)
            | (go_at_call 70; (with_reducible refine (q4 _ k6).mono ?_); rintro e w7 ⟨rfl, hb7⟩; have k7 := k6.call hb7)
            | (go_at_call 69; (with_reducible refine (q5 _ k7).mono ?_); rintro e w8 ⟨rfl, hb8⟩; have k8 := k7.call hb8))
          go_roundg (n - (i + 1))
          case measure => omega
          case rel => exact ⟨i + 1, by first | rfl | (rw [WE1.out]), ⟨rfl, by omega⟩, ⟨HK.out.trans k8 (by simp)⟩⟩
    · have hcb : decide ((i : Int) < (n : Int)) = false := decide_eq_false hc
      have HK2 := Aside0.mk (K2.out.trans HK.out (by simp))
      clear hTr
      go_wp2
      go_ret
      exact ⟨rfl, HK2.out.below⟩

end Go.Proofs.Ytangandfgbnomaa.V
