/- The walk of the law CursorFirsts. -/
import Derived.Test.YtangandfgbnomaaVC1
namespace Go.Proofs.Ytangandfgbnomaa.V
open Go.RowKit Go.Proofs.YtangandfgbnomaaW.PrintWords Go.Proofs.YtangandfgbnomaaW.PrintLast Go.Proofs.YtangandfgbnomaaW.PrintMore
set_option linter.unusedVariables false
set_option linter.unusedSimpArgs false


theorem acts_ok {us : List Ac} {M : Int} {ta : Option Addr} {w : World} (hA : Acts w ta us) (hM : 2 ≤ M ∧ M ≤ 5) (k : Nat) : ((S.clr M false).acts (us.take k)).ok :=
  S.ok.acts _ (S.clr_ok M false hM) hM (fun y hy => hA.1 y (List.mem_of_mem_take hy))

set_option maxRecDepth 100000 in
set_option maxHeartbeats 4000000 in
theorem firsts_walk {w : World} (mo : Int) (hmo : 0 ≤ mo ∧ mo < 256) (ta : Option Addr) (cap : Nat) (us : List Ac) (hA : Acts w ta us) (hul : us.length ≤ maxLen) (tb : Option Addr) (capb : Nat) (l : List Int) (hI : Ints w tb l) (hl : l.length ≤ maxLen) :
    Calls Try.prog 10 #[.int .u8 mo, .slice ta us.length cap, .slice tb l.length capb] w fun e w' => e = .returned (.bool true) ∧ Below w.heap.size w w' := by
  have hok := acts_ok hA (show 2 ≤ 2 + mo % 4 ∧ 2 + mo % 4 ≤ 5 by omega) 30
  have hlay : ∀ W, Keep [] w W → Calls Try.prog 73 #[.int .u8 mo, .slice ta us.length cap] W fun e w' => ∃ p b q d, e = .returned (.tuple #[.pointer (some ⟨p, 0, none⟩), .pointer (some ⟨q, 0, none⟩)]) ∧ (W.heap.size ≤ p ∧ W.heap.size ≤ b ∧ W.heap.size ≤ q ∧ W.heap.size ≤ d) ∧
      Two w' p b q d ((S.clr (2 + mo % 4) false).acts (us.take 30)) ∧ Keep [] W w' := fun W k => lay73 mo hmo ta cap us (hA.keep k) hul
  generalize (S.clr (2 + mo % 4) false).acts (us.take 30) = X at *
  have hl2 : l.length ≤ 9223372036854775807 := hl
  have HO := Aside0.mk hok
  have HI := Aside0.mk hI
  have k0 : Keep [] w w := Keep.refl _ _
  obtain ⟨n, hn⟩ : ∃ n, l.length = n := ⟨_, rfl⟩
  have HN := Aside0.mk hn
  rw [hn] at hl2 ⊢
  have HL2 := Aside0.mk hl2
  clear hA hul hI hl hok hmo hn hl2
  go_enter Try.func10, Try.ntmps10
  go_wp2_with (first
    | (go_at_call 72; (with_reducible refine (awake15 _).mono ?_); rintro e w1 ⟨rfl, hb1⟩; have k1 := k0.call hb1)
    | (go_at_call 73; (with_reducible refine (hlay _ k1).mono ?_); rintro e w2 ⟨p, b, q, d, rfl, hge, hT, hk⟩
       have HT := Aside0.mk hT
       have HG := Aside0.mk hge
       have K2 := Aside0.mk (k1.trans hk (by simp))
       have HW1 := Aside0.mk k1.size
       clear hge hk hT))
  go_loopg [21] n (fun kq v21 w' => ∃ i : Nat, v21 = .int .i64 i ∧ Aside0 (kq = n - i ∧ i ≤ n) ∧ Aside0 (Keep [] w2 w'))
  case atStart => exact ⟨0, rfl, ⟨rfl, Nat.zero_le _⟩, ⟨Keep.refl _ _⟩⟩
  case round =>
    obtain ⟨i, rfl, HR, HK⟩ := hrel
    obtain ⟨hi1, hi2⟩ := HR.out
    have hTr := HT.out.keep HK.out (by simp) (by simp) (by simp) (by simp)
    by_cases hc : (i : Int) < (n : Int)
    · have hcb : decide ((i : Int) < (n : Int)) = true := decide_eq_true hc
      have hin : i < n := by omega
      have hi0 : (0 : Int) ≤ (i : Int) := by omega
      obtain ⟨x, rfl, hcell⟩ := HI.out i (by rw [HN.out]; exact hin)
      have hci := hcell wr (K2.out.trans HK.out (by simp))
      generalize l.getD i 0 = y at *
      have hcf := cfirst_calls hTr.1 HO.out y
      have hrf : ∀ W, Keep [] wr W → Calls Try.prog 75 #[.pointer (some ⟨q, 0, none⟩), .int .i64 y] W fun e w' => e = .returned (.int .i64 (frst X.l (X.ix y))) ∧ Below W.heap.size W w' := fun W k => rfirst_calls (hTr.2.1.keep k (by simp) (by simp)) HO.out y
      generalize frst X.l (X.ix y) = f at *
      have WE1 := Aside0.mk (show wrap64 ((i : Int) + 1) = ((i + 1 : Nat) : Int) by have := HL2.out; unfold wrap64; omega)
      have hn9 := HL2.out
      clear hTr hcell
      by_cases h8 : (i : Int) < 8
      · have h8b : decide ((i : Int) < 8) = true := decide_eq_true h8
        go_wp2_with (first
          | (go_at_call 74; (with_reducible refine hcf.mono ?_); rintro e w3 ⟨rfl, hb3⟩; have k3 := (Keep.refl [] wr).call hb3)
          | (go_at_call 75; (with_reducible refine (hrf _ k3).mono ?_); rintro e w4 ⟨rfl, hb4⟩))
        go_roundg (n - (i + 1))
        case measure => omega
        case rel => exact ⟨i + 1, by first | rfl | (rw [WE1.out]), ⟨rfl, by omega⟩, ⟨(HK.out.trans k3 (by simp)).call hb4⟩⟩
      · have h8b : decide ((i : Int) < 8) = false := decide_eq_false h8
        go_wp2
        go_roundg (n - (i + 1))
        case measure => omega
        case rel => exact ⟨i + 1, by first | rfl | (rw [WE1.out]), ⟨rfl, by omega⟩, HK⟩
    · have hcb : decide ((i : Int) < (n : Int)) = false := decide_eq_false hc
      have hho := home_calls hTr.1 HO.out
      have h0 : X.ix 0 = 0 := HO.out.self (n := 0) (by have := (HO.out.ix 0).2.2; omega)
      have hrf : ∀ W, Keep [p] wr W → Calls Try.prog 75 #[.pointer (some ⟨q, 0, none⟩), .int .i64 0] W fun e w' => e = .returned (.int .i64 (frst X.l 0)) ∧ Below W.heap.size W w' := fun W k => by
        have := rfirst_calls (hTr.2.1.keep k (by simp; exact fun e => hTr.2.2.1 e.symm) (by simp; exact fun e => hTr.2.2.2.1 e.symm)) HO.out 0
        rw [h0] at this; exact this
      generalize frst X.l 0 = f at *
      have HK2 := Aside0.mk (K2.out.trans HK.out (by simp))
      clear hTr h0
      go_wp2_with (first
        | (go_at_call 76; (with_reducible refine hho.mono ?_); rintro e w3 ⟨rfl, hs3, hk3⟩; have hcu := cursor_calls hs3)
        | (go_at_call 64; (with_reducible refine hcu.mono ?_); rintro e w4 ⟨rfl, rfl⟩)
        | (go_at_call 75; (with_reducible refine (hrf _ hk3).mono ?_); rintro e w5 ⟨rfl, hb5⟩))

      go_ret
      exact ⟨by simp, ((HK2.out.trans hk3 (fun x hx => by right; simp at hx; have := HG.out; have := HW1.out; omega)).call hb5).below⟩

end Go.Proofs.Ytangandfgbnomaa.V
