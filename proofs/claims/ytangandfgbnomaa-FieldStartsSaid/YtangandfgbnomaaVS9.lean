/- The walk of the law FieldStarts. -/
import Derived.Test.YtangandfgbnomaaVA13
import Derived.Test.YtangandfgbnomaaVZ5
namespace Go.Proofs.Ytangandfgbnomaa.V
open Go.RowKit
set_option linter.unusedVariables false
set_option linter.unusedSimpArgs false

theorem fld_ne (a b d : Bool) (n : Int) (W : World) : Sem.run Try.prog (binOp .neq 106 (.agg #[.bool a, .bool b, .int .i64 n, .bool d]) (.agg #[.bool a, .bool b, .int .i64 n, .bool d])) W = .ok (.bool false) W := by
  have hu := Try.underlying106
  have h3 := Try.underlying3
  have h4 := Try.underlying4
  go_simp

set_option maxRecDepth 100000 in
set_option maxHeartbeats 8000000 in
theorem starts_walk {w : World} (mo : Int) (hmo : 0 ≤ mo ∧ mo < 256) (ta : Option Addr) (cap : Nat) (us : List Ac) (hA : Acts w ta us) (hul : us.length ≤ maxLen) (y : Int) :
    Calls Try.prog 13 #[.int .u8 mo, .slice ta us.length cap, .int .i64 y] w fun e w' => e = .returned (.bool true) ∧ Below w.heap.size w w' := by
  have hok := acts_ok hA (show 2 ≤ 2 + mo % 4 ∧ 2 + mo % 4 ≤ 5 by omega) 30
  have hlay : ∀ W, Keep [] w W → Calls Try.prog 68 #[.int .u8 mo, .slice ta us.length cap] W fun e w' => ∃ p b q d, e = .returned (.tuple #[.pointer (some ⟨p, 0, none⟩), .pointer (some ⟨q, 0, none⟩)]) ∧ (W.heap.size ≤ p ∧ W.heap.size ≤ b ∧ W.heap.size ≤ q ∧ W.heap.size ≤ d) ∧
      Two w' p b q d ((S.clr (2 + mo % 4) false).acts (us.take 30)) ∧ Keep [] W w' := fun W k => lay68 mo hmo ta cap us (hA.keep k) hul
  generalize (S.clr (2 + mo % 4) false).acts (us.take 30) = X at *
  obtain ⟨_, _, hN, hN1⟩ := hok.ix 0
  have HO := Aside0.mk hok
  have k0 : Keep [] w w := Keep.refl _ _
  have hsl : (starts X.l).length = X.l.length := starts_length _
  obtain ⟨N, hNe⟩ : ∃ N, X.l.length = N := ⟨_, rfl⟩
  rw [hNe] at hsl hN hN1
  have HN := Aside0.mk hNe
  have HSL := Aside0.mk hsl
  have HNN := Aside0.mk (And.intro hN hN1)
  clear hA hul hok hmo hsl hNe
  go_enter Try.func13, Try.ntmps13
  go_wp2_with (first
    | (go_at_call 67; (with_reducible refine (awake13 _).mono ?_); rintro e w1 ⟨rfl, hb1⟩; have k1 := k0.call hb1)
    | (go_at_call 68; (with_reducible refine (hlay _ k1).mono ?_); rintro e w2 ⟨p, b, q, d, rfl, hge, hT, hk⟩
       have HT := Aside0.mk hT
       have K2 := Aside0.mk (k1.trans hk (by simp))
       have hrs := rstarts_calls hT.2.1 (HO.out.ix 0).2.2.1 (HO.out.ix 0).2.2.2
       clear hge hk hT)
    | (go_at_call 85; (with_reducible refine hrs.mono ?_); rintro e w3 ⟨v, rfl, hv, hb3⟩
       go_loud (obtain ⟨g, cp, hve, hg1, hg2, hgc⟩ := hv.rules (by intro e; have := HSL.out; rw [e] at this; have := HNN.out; simp at *; omega))
       subst hve
       rw [HSL.out] at hgc
       go_loud (rw [HSL.out])
       have HT3 := Aside0.mk (HT.out.call hb3)
       have K3 := Aside0.mk (K2.out.call hb3)
       have HGC := Aside0.mk hgc
       have HG2 := Aside0.mk hg2
       clear hgc hv hg1 hg2 hb3 hrs))
  go_loopg [26] N (fun kq v26 w' => ∃ i : Nat, v26 = .int .i64 i ∧ Aside0 (kq = N - i ∧ i ≤ N) ∧ Aside0 (Keep [] w3 w'))
  case atStart => exact ⟨0, rfl, ⟨rfl, Nat.zero_le _⟩, ⟨Keep.refl _ _⟩⟩
  case round =>
    obtain ⟨i, rfl, HR, HK⟩ := hrel
    obtain ⟨hi1, hi2⟩ := HR.out
    have hTr := HT3.out.keep HK.out (by simp) (by simp) (by simp) (by simp)
    by_cases hc : (i : Int) < (N : Int)
    · have hcb : decide ((i : Int) < (N : Int)) = true := decide_eq_true hc
      have hin : i < N := by omega
      have hi0 : (0 : Int) ≤ (i : Int) := by omega
      have hiX : i < X.l.length := by rw [HN.out]; exact hin
      have hself := HO.out.self hiX
      have hgi := HGC.out i hin
      rw [starts_get X.l i hiX] at hgi
      have hgi2 := hgi wr HK.out
      have hst : ∀ W, Keep [] wr W → Calls Try.prog 87 #[.pointer (some ⟨p, 0, none⟩), .int .i64 i] W fun e w' => e = .returned (.int .i64 (stt X.l i)) ∧ Below W.heap.size W w' := fun W k => by
        have := start_calls (hTr.1.keep k (by simp) (by simp)) HO.out (i : Int)
        rw [hself] at this; exact this
      have hop : ∀ W, Keep [] wr W → Calls Try.prog 89 #[.pointer (some ⟨p, 0, none⟩), .int .i64 i] W fun e w' => e = .returned (.bool (opn X.l i)) ∧ Below W.heap.size W w' := fun W k => by
        have := open_calls (hTr.1.keep k (by simp) (by simp)) HO.out (i : Int)
        rw [hself] at this; exact this
      have hro : ∀ W, Keep [] wr W → Calls Try.prog 90 #[.pointer (some ⟨q, 0, none⟩), .int .i64 i] W fun e w' => e = .returned (.bool (opn X.l i)) ∧ Below W.heap.size W w' := fun W k => by
        have := ropen_calls (hTr.2.1.keep k (by simp) (by simp)) HO.out (i : Int)
        rw [hself] at this; exact this
      obtain ⟨op, hope⟩ : ∃ op, opn X.l i = op := ⟨_, rfl⟩
      rw [hope] at hop hro
      have hopp : (op != op) = false := by simp
      have WE1 := Aside0.mk (show wrap64 ((i : Int) + 1) = ((i + 1 : Nat) : Int) by unfold wrap64; omega)
      have i33 : wrap64 ((i : Int) + 300) = (i : Int) + 300 := by unfold wrap64; omega
      have k0r : Keep [] wr wr := Keep.refl _ _
      have HTR := Aside0.mk hTr
      have hiN : (i : Int) ≤ 3564 := by omega
      clear hope hgi hTr
      rcases stt_dom X.l i hiX with e | ⟨m, hm, e, _⟩
      · rw [e] at hst hgi2
        have hof := of86_none HTR.out.1 HO.out (i : Int) (by rw [hself]; exact e)
        clear e hself
        go_wp2_with (go_at_call 86; (with_reducible refine hof.mono ?_); rintro e w4 ⟨rfl, hb4⟩
                     have K4 := Aside0.mk ((k0r.call hb4).alloc (.cells #[.bool false, .bool false, .int .i64 0, .bool false] 103))
                     have BB := Aside0.mk (Blk.new w4 [.bool false, .bool false, .int .i64 0, .bool false] 103))
        obtain ⟨W4, hW4⟩ : ∃ W4, w4.alloc (.cells #[.bool false, .bool false, .int .i64 0, .bool false] 103) = W4 := ⟨_, rfl⟩
        rw [hW4] at K4 BB ⊢
        have r0 : ∀ W, Keep [] W4 W → W.cell? ⟨w4.heap.size, 0, none⟩ = some (.bool false) := fun W k => (BB.out.keep k (by simp)).cell 0
        have r1 : ∀ W, Keep [] W4 W → W.cell? ⟨w4.heap.size, 1, none⟩ = some (.bool false) := fun W k => (BB.out.keep k (by simp)).cell 1
        have r2 : ∀ W, Keep [] W4 W → W.cell? ⟨w4.heap.size, 2, none⟩ = some (.int .i64 0) := fun W k => (BB.out.keep k (by simp)).cell 2
        have r3 : ∀ W, Keep [] W4 W → W.cell? ⟨w4.heap.size, 3, none⟩ = some (.bool false) := fun W k => (BB.out.keep k (by simp)).cell 3
        have s4 : ∀ W, Keep [] W4 W → Calls Try.prog 87 #[.pointer (some ⟨p, 0, none⟩), .int .i64 i] W fun e w' => e = .returned (.int .i64 (-1)) ∧ Below W.heap.size W w' := fun W k => hst W (K4.out.trans k (by simp))
        have kd : Keep [] W4 W4.drew := (Keep.refl [] W4).drew
        clear hW4 hof hst
        refine wp_quiet_all (K := fun W => Keep [] W4 W) (by kernel_rfl) (by kernel_rfl) kd ?_
        repeat (first
          | go_big_quiet_skip
          | (go_big_quiet_want; first
              | (go_big_quiet_op; first
                  | go_big_quiet_on
                  | (go_big_quiet_call ((intro hW; first
                      | exact Calls.mono (s4 _ hW) (fun e W' h => ⟨h.1, hW.call h.2⟩)))))
              | (apply quiet_of
                 · (intro W hW
                    go_simp
                    with_reducible rfl)
                 simp only [Act.put, List.setIfInBounds_toArray, List.set_cons_zero, List.set_cons_succ]
                 go_big_quiet_on)))
        refine wpQuiet_nil ?_
        intro W5 k5
        have KQ := Aside0.mk (K4.out.trans k5 (by simp))
        clear r0 r1 r2 r3 s4 kd k5
        by_cases h3 : (300 : Int) < (i : Int)
        · have h3b : decide ((300 : Int) < (i : Int)) = true := decide_eq_true h3
          by_cases h4 : (i : Int) + 300 < (N : Int)
          · have h4b : decide ((i : Int) + 300 < (N : Int)) = true := decide_eq_true h4
            go_wp2
            go_roundg (N - (i + 1))
            case measure => omega
            case rel => exact ⟨i + 1, by first | rfl | (rw [WE1.out]), ⟨rfl, by omega⟩, ⟨HK.out.trans KQ.out (by simp)⟩⟩
          · have h4b : decide ((i : Int) + 300 < (N : Int)) = false := decide_eq_false h4
            go_wp2_with (first
              | (go_at_call 89; (with_reducible refine (hop _ KQ.out).mono ?_); rintro e w8 ⟨rfl, hb8⟩; have k8 := (Keep.refl [] W5).call hb8)
              | (go_at_call 90; (with_reducible refine (hro _ (KQ.out.trans k8 (by simp))).mono ?_); rintro e w9 ⟨rfl, hb9⟩; have k9 := k8.call hb9))
            go_roundg (N - (i + 1))
            case measure => omega
            case rel => exact ⟨i + 1, by first | rfl | (rw [WE1.out]), ⟨rfl, by omega⟩, ⟨(HK.out.trans KQ.out (by simp)).trans k9 (by simp)⟩⟩
        · have h3b : decide ((300 : Int) < (i : Int)) = false := decide_eq_false h3
          go_wp2_with (first
            | (go_at_call 89; (with_reducible refine (hop _ KQ.out).mono ?_); rintro e w8 ⟨rfl, hb8⟩; have k8 := (Keep.refl [] W5).call hb8)
            | (go_at_call 90; (with_reducible refine (hro _ (KQ.out.trans k8 (by simp))).mono ?_); rintro e w9 ⟨rfl, hb9⟩; have k9 := k8.call hb9))
          go_roundg (N - (i + 1))
          case measure => omega
          case rel => exact ⟨i + 1, by first | rfl | (rw [WE1.out]), ⟨rfl, by omega⟩, ⟨(HK.out.trans KQ.out (by simp)).trans k9 (by simp)⟩⟩
      · rw [e] at hst hgi2
        have hof := of86_some HTR.out.1 HO.out (i : Int) m hm (by rw [hself]; exact e)
        have hrf : ∀ W, Keep [] wr W → Calls Try.prog 88 #[.pointer (some ⟨q, 0, none⟩), .int .i64 m] W fun e w' => e = .returned (fld (X.l.getD m C.zero).fa) ∧ Below W.heap.size W w' := fun W k => rfield_calls (HTR.out.2.1.keep k (by simp) (by simp)) HO.out hm
        obtain ⟨fa, hfa⟩ : ∃ fa, (X.l.getD m C.zero).fa = fa := ⟨_, rfl⟩
        rw [hfa] at hof hrf
        have m0 : (0 : Int) ≤ (m : Int) := by omega
        have m0b : decide ((0 : Int) ≤ (m : Int)) = true := decide_eq_true m0
        have fne := fld_ne
        clear e hfa hself
        go_wp2_with (go_at_call 86; (with_reducible refine hof.mono ?_); rintro e w4 ⟨rfl, hb4⟩
                     have K4 := Aside0.mk ((k0r.call hb4).alloc (.cells #[.bool (decide (32 ≤ fa)), .bool (decide (fa / 16 % 2 = 1)), .int .i64 (fa / 4 % 4), .bool (decide (fa % 2 = 1))] 103))
                     have BB := Aside0.mk (Blk.new w4 [.bool (decide (32 ≤ fa)), .bool (decide (fa / 16 % 2 = 1)), .int .i64 (fa / 4 % 4), .bool (decide (fa % 2 = 1))] 103))
        obtain ⟨W4, hW4⟩ : ∃ W4, w4.alloc (.cells #[.bool (decide (32 ≤ fa)), .bool (decide (fa / 16 % 2 = 1)), .int .i64 (fa / 4 % 4), .bool (decide (fa % 2 = 1))] 103) = W4 := ⟨_, rfl⟩
        rw [hW4] at K4 BB ⊢
        have r0 : ∀ W, Keep [] W4 W → W.cell? ⟨w4.heap.size, 0, none⟩ = some (.bool (decide (32 ≤ fa))) := fun W k => (BB.out.keep k (by simp)).cell 0
        have r1 : ∀ W, Keep [] W4 W → W.cell? ⟨w4.heap.size, 1, none⟩ = some (.bool (decide (fa / 16 % 2 = 1))) := fun W k => (BB.out.keep k (by simp)).cell 1
        have r2 : ∀ W, Keep [] W4 W → W.cell? ⟨w4.heap.size, 2, none⟩ = some (.int .i64 (fa / 4 % 4)) := fun W k => (BB.out.keep k (by simp)).cell 2
        have r3 : ∀ W, Keep [] W4 W → W.cell? ⟨w4.heap.size, 3, none⟩ = some (.bool (decide (fa % 2 = 1))) := fun W k => (BB.out.keep k (by simp)).cell 3
        have s4 : ∀ W, Keep [] W4 W → Calls Try.prog 87 #[.pointer (some ⟨p, 0, none⟩), .int .i64 i] W fun e w' => e = .returned (.int .i64 (m : Int)) ∧ Below W.heap.size W w' := fun W k => hst W (K4.out.trans k (by simp))
        have f4 : ∀ W, Keep [] W4 W → Calls Try.prog 88 #[.pointer (some ⟨q, 0, none⟩), .int .i64 m] W fun e w' => e = .returned (.agg #[.bool (decide (32 ≤ fa)), .bool (decide (fa / 16 % 2 = 1)), .int .i64 (fa / 4 % 4), .bool (decide (fa % 2 = 1))]) ∧ Below W.heap.size W w' := fun W k => hrf W (K4.out.trans k (by simp))
        have kd : Keep [] W4 W4.drew := (Keep.refl [] W4).drew
        clear hW4 hof hst
        refine wp_quiet_all (K := fun W => Keep [] W4 W) (by kernel_rfl) (by kernel_rfl) kd ?_
        repeat (first
          | go_big_quiet_skip
          | (go_big_quiet_want; first
              | (go_big_quiet_op; first
                  | go_big_quiet_on
                  | (go_big_quiet_call ((intro hW; first
                      | exact Calls.mono (s4 _ hW) (fun e W' h => ⟨h.1, hW.call h.2⟩)
                      | exact Calls.mono (f4 _ hW) (fun e W' h => ⟨h.1, hW.call h.2⟩)))))
              | (apply quiet_of
                 · (intro W hW
                    go_simp
                    with_reducible rfl)
                 simp only [Act.put, List.setIfInBounds_toArray, List.set_cons_zero, List.set_cons_succ]
                 go_big_quiet_on)))
        refine wpQuiet_nil ?_
        intro W5 k5
        have KQ := Aside0.mk (K4.out.trans k5 (by simp))
        clear r0 r1 r2 r3 s4 kd k5 f4 hrf
        by_cases h3 : (300 : Int) < (i : Int)
        · have h3b : decide ((300 : Int) < (i : Int)) = true := decide_eq_true h3
          by_cases h4 : (i : Int) + 300 < (N : Int)
          · have h4b : decide ((i : Int) + 300 < (N : Int)) = true := decide_eq_true h4
            go_wp2
            go_roundg (N - (i + 1))
            case measure => omega
            case rel => exact ⟨i + 1, by first | rfl | (rw [WE1.out]), ⟨rfl, by omega⟩, ⟨HK.out.trans KQ.out (by simp)⟩⟩
          · have h4b : decide ((i : Int) + 300 < (N : Int)) = false := decide_eq_false h4
            go_wp2_with (first
              | (go_at_call 89; (with_reducible refine (hop _ KQ.out).mono ?_); rintro e w8 ⟨rfl, hb8⟩; have k8 := (Keep.refl [] W5).call hb8)
              | (go_at_call 90; (with_reducible refine (hro _ (KQ.out.trans k8 (by simp))).mono ?_); rintro e w9 ⟨rfl, hb9⟩; have k9 := k8.call hb9))
            go_roundg (N - (i + 1))
            case measure => omega
            case rel => exact ⟨i + 1, by first | rfl | (rw [WE1.out]), ⟨rfl, by omega⟩, ⟨(HK.out.trans KQ.out (by simp)).trans k9 (by simp)⟩⟩
        · have h3b : decide ((300 : Int) < (i : Int)) = false := decide_eq_false h3
          go_wp2_with (first
            | (go_at_call 89; (with_reducible refine (hop _ KQ.out).mono ?_); rintro e w8 ⟨rfl, hb8⟩; have k8 := (Keep.refl [] W5).call hb8)
            | (go_at_call 90; (with_reducible refine (hro _ (KQ.out.trans k8 (by simp))).mono ?_); rintro e w9 ⟨rfl, hb9⟩; have k9 := k8.call hb9))
          go_roundg (N - (i + 1))
          case measure => omega
          case rel => exact ⟨i + 1, by first | rfl | (rw [WE1.out]), ⟨rfl, by omega⟩, ⟨(HK.out.trans KQ.out (by simp)).trans k9 (by simp)⟩⟩
    · have hcb : decide ((i : Int) < (N : Int)) = false := decide_eq_false hc
      have hs1 := start_calls hTr.1 HO.out y
      have hs2 : ∀ W, Keep [] wr W → Calls Try.prog 91 #[.pointer (some ⟨q, 0, none⟩), .int .i64 y] W fun e w' => e = .returned (.int .i64 (stt X.l (X.ix y))) ∧ Below W.heap.size W w' := fun W k => rstart_calls (hTr.2.1.keep k (by simp) (by simp)) HO.out y
      have hop : ∀ W, Keep [] wr W → Calls Try.prog 89 #[.pointer (some ⟨p, 0, none⟩), .int .i64 y] W fun e w' => e = .returned (.bool (opn X.l (X.ix y))) ∧ Below W.heap.size W w' := fun W k => open_calls (hTr.1.keep k (by simp) (by simp)) HO.out y
      have hro : ∀ W, Keep [] wr W → Calls Try.prog 90 #[.pointer (some ⟨q, 0, none⟩), .int .i64 y] W fun e w' => e = .returned (.bool (opn X.l (X.ix y))) ∧ Below W.heap.size W w' := fun W k => ropen_calls (hTr.2.1.keep k (by simp) (by simp)) HO.out y
      generalize opn X.l (X.ix y) = op at *
      generalize stt X.l (X.ix y) = st at *
      have k0r : Keep [] wr wr := Keep.refl _ _
      have HK2 := Aside0.mk (K3.out.trans HK.out (by simp))
      clear hTr
      go_wp2_with (first
        | (go_at_call 87; (with_reducible refine hs1.mono ?_); rintro e w4 ⟨rfl, hb4⟩; have k4 := k0r.call hb4)
        | (go_at_call 91; (with_reducible refine (hs2 _ k4).mono ?_); rintro e w5 ⟨rfl, hb5⟩; have k5 := k4.call hb5)
        | (go_at_call 89; (with_reducible refine (hop _ k5).mono ?_); rintro e w6 ⟨rfl, hb6⟩; have k6 := k5.call hb6)
        | (go_at_call 90; (with_reducible refine (hro _ k6).mono ?_); rintro e w7 ⟨rfl, hb7⟩; have k7 := k6.call hb7))
      go_ret
      exact ⟨by simp, (HK2.out.trans k7 (by simp)).below⟩

end Go.Proofs.Ytangandfgbnomaa.V
