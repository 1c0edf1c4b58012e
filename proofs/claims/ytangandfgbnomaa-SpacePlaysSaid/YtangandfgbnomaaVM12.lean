/- The walk of the law SpacePlays. -/
import Derived.Test.YtangandfgbnomaaVR6
import Derived.Test.YtangandfgbnomaaVUL
import Derived.Test.YtangandfgbnomaaVXA
namespace Go.Proofs.Ytangandfgbnomaa.V
open Go.RowKit
set_option linter.unusedVariables false
set_option linter.unusedSimpArgs false


set_option maxRecDepth 100000 in
set_option maxHeartbeats 4000000 in
theorem plays12_walk {w : World} (mo : Int) (hmo : 0 ≤ mo ∧ mo < 256) (ta : Option Addr) (cap : Nat) (us : List Ac) (hA : Acts w ta us) (hul : us.length ≤ maxLen) (n : Int) :
    Calls Try.prog 12 #[.int .u8 mo, .slice ta us.length cap, .int .i64 n] w fun e w' => e = .returned (.bool true) ∧ Below w.heap.size w w' := by
  have hm4 : mo.tmod 4 = mo % 4 := Int.tmod_eq_emod_of_nonneg hmo.1
  have hmm : 2 ≤ 2 + mo % 4 ∧ 2 + mo % 4 ≤ 5 := by omega
  have hw1 : wrap64 (mo % 4) = mo % 4 := by unfold wrap64; omega
  have hw2 : wrap64 (2 + mo % 4) = 2 + mo % 4 := by unfold wrap64; omega
  have hw3 : wrap64 (mo.tmod 4) = mo % 4 := by rw [hm4]; exact hw1
  obtain ⟨M, hM⟩ : ∃ M, 2 + mo % 4 = M := ⟨_, rfl⟩
  rw [hM] at hw2 hmm
  have hul' : us.length ≤ 9223372036854775807 := hul
  have HA := Aside0.mk hA
  have HM := Aside0.mk hmm
  have HL := Aside0.mk hul'
  clear hA hul hul' hmo hmm
  go_enter Try.func12, Try.ntmps12
  go_wp2_with (first
    | (go_at_call 53; (with_reducible refine (awake12 _).mono ?_); rintro e w1 ⟨rfl, hb1⟩)
    | (go_at_call 54; go_loud (with_reducible refine (new_calls _ M HM.out).mono ?_); rintro e w2 ⟨p, b, rfl, hp, hb, hs, hk2⟩)
    | (go_at_call 55; go_loud (with_reducible refine (rnew_calls _ M HM.out).mono ?_); rintro e w3 ⟨q, d, rfl, hq, hd, hx, hk3⟩))
  have W1 : Keep [] w w1 := (Keep.refl [] w).call hb1
  have W2 : Keep [] w w2 := W1.trans hk2 (by simp)
  have W3 : Keep [] w w3 := W2.trans hk3 (by simp)
  have hsp3 := hs.keep hk3 (by simp) (by simp)
  have plt : p < w2.heap.size := by obtain ⟨_, _, _, x, _⟩ := id hs; exact x.lt
  have blt : b < w2.heap.size := by obtain ⟨_, _, _, _, x⟩ := id hs; exact x.lt
  have s1 := W1.size
  have s2 := W2.size
  have T3 : Two w3 p b q d (S.clr M false) := ⟨hsp3, hx, by omega, by omega, by omega, by omega⟩
  have hk2s := hk2.size
  have hpq : w.heap.size ≤ p ∧ w.heap.size ≤ q ∧ w.heap.size ≤ b ∧ w.heap.size ≤ d := by omega
  have T3' := Aside0.mk T3
  have K3' := Aside0.mk W3
  have PQ := Aside0.mk hpq
  clear T3 W1 W2 W3 hk2 hk3 hs hsp3 hx hb1 plt blt s1 s2 hp hb hq hd hpq hk2s
  go_wp2_with fail
  go_loopg [30] us.length (fun kq v w' => ∃ (i b' d' : Nat), v = .int .i64 i ∧ Aside0 (kq = us.length - i ∧ i ≤ us.length) ∧ Aside0 (w.heap.size ≤ b' ∧ w.heap.size ≤ d') ∧ Aside0 (Two w' p b' q d' ((S.clr M false).acts (us.take (min i 40)))) ∧ Aside0 (Keep [] w w'))
  case atStart => exact ⟨0, b, d, rfl, ⟨rfl, Nat.zero_le _⟩, ⟨by have := PQ.out; omega⟩, T3', K3'⟩
  case round =>
    obtain ⟨i, b', d', rfl, HI, HS, HT2, HK⟩ := hrel
    obtain ⟨hi1, hi2⟩ := HI.out
    by_cases hc : (i : Int) < (us.length : Int)
    · have hcb : decide ((i : Int) < (us.length : Int)) = true := decide_eq_true hc
      have hil : i < us.length := by omega
      have hi0 : (0 : Int) ≤ (i : Int) := by omega
      have hul := HL.out
      obtain ⟨x, tt, cp, rfl, hcell⟩ := HA.out.2 i hil
      obtain ⟨htx, f0, f1, f2, f3, f4, f5, f6, f7, f8, f9, f10⟩ := hcell _ HK.out
      have hstep := Aside0.mk (S.acts_take (S.clr M false) us 40 i hil)
      have hfine := HA.out.1 us[i] (List.getElem_mem hil)
      have hok := Aside0.mk (S.ok.acts (us.take (min i 40)) (S.clr_ok M false HM.out) HM.out (fun y hy => HA.out.1 y (List.mem_of_mem_take hy)))
      have hmod := S.acts_model (us.take (min i 40)) (S.clr M false)
      generalize us[i] = a at *
      generalize (S.clr M false).acts (us.take (min i 40)) = t at *
      have hPQ := PQ.out
      have hS := HS.out
      have hTT : ∀ o W, Keep [p, b', q, d'] (wr.alloc o) W → TxRow W tt a.tx := fun o W k => (hcell W ((HK.out.alloc o).trans k (by intro y hy; right; simp at hy; omega))).1
      by_cases h2 : (i : Int) < 40
      · have h2b : decide ((i : Int) ≥ 40) = false := decide_eq_false (by omega)
        have h2c : decide ((40 : Int) ≤ (i : Int)) = false := decide_eq_false (by omega)
        have hLD : ∀ o, Calls Try.prog 56 #[.pointer (some ⟨p, 0, none⟩), .pointer (some ⟨q, 0, none⟩), .agg #[.int .u8 a.d, .int .i64 a.n, .bool a.on, .int .u8 a.code, .int .u8 a.c.ch, .bool a.c.at_, .int .u8 a.c.fa, .int .u8 a.c.hi, .int .u8 a.c.co, .int .u8 a.c.se, .slice tt a.tx.length cp]] (wr.alloc o) (DoPost (wr.alloc o) p b' q d' t a) := fun o => ldo (HT2.out.call ((Below.refl _ wr).alloc (Nat.le_refl _) o)) hok.out (by rw [hmod]; exact HM.out) a hfine tt cp (hTT o)
        have we1 : wrap64 ((i : Int) + 1) = ((i + 1 : Nat) : Int) := by unfold wrap64; omega
        have WE1 := Aside0.mk we1
        have hok2 := Aside0.mk (hok.out.act (by rw [hmod]; exact HM.out) a hfine)
        have HB0 := Aside0.mk (Blk.new wr [.int .u8 a.d, .int .i64 a.n, .bool a.on, .int .u8 a.code, .int .u8 a.c.ch, .bool a.c.at_, .int .u8 a.c.fa, .int .u8 a.c.hi, .int .u8 a.c.co, .int .u8 a.c.se, .slice tt a.tx.length cp] 67)
        clear we1 hfine hTT hPQ hS htx hcell hmod
        go_wp2_with (go_at_call 56; go_loud (with_reducible refine (hLD _).mono ?_); rintro e w5 ⟨rfl, b2, d2, hb2, hd2, hT5, hK5⟩)
        have hPQ := PQ.out
        have hS := HS.out
        have hks := HK.out.size
        obtain ⟨l1, l2⟩ : p < wr.heap.size ∧ b' < wr.heap.size := by obtain ⟨_, _, _, x1, x2⟩ := id HT2.out.1; exact ⟨x1.lt, x2.lt⟩
        obtain ⟨l3, l4⟩ : q < wr.heap.size ∧ d' < wr.heap.size := by obtain ⟨_, _, _, x1, x2⟩ := id HT2.out.2.1; exact ⟨x1.lt, x2.lt⟩
        have HB5 := Aside0.mk (HB0.out.keep hK5 (by simp; omega))
        have hsz1 : ∀ o, (wr.alloc o).heap.size = wr.heap.size + 1 := fun o => Array.size_push ..
        rw [hsz1] at hb2 hd2
        have KW5 := Aside0.mk ((HK.out.alloc _).trans hK5 (by intro y hy; right; simp at hy; omega))
        have HBD := Aside0.mk (show w.heap.size ≤ b2 ∧ w.heap.size ≤ d2 by omega)
        have HT5 := Aside0.mk hT5
        obtain ⟨cap5, ex5, _, rb1, rb2⟩ := id hT5.2.1
        have kd : ∀ W, Keep [] w5.drew W → Keep [] w5 W := fun W k => (Keep.refl [] w5).drew.trans k (by simp)
        have j0 : ∀ W, Keep [] w5 W → W.cell? ⟨wr.heap.size, 1, none⟩ = some (.int .i64 a.n) := fun W k => (HB5.out.keep k (by simp)).cell 1
        have j1 : ∀ W, Keep [] w5 W → W.cell? ⟨q, 5, none⟩ = some (.int .i64 (t.act a).cur) := fun W k => (rb1.keep k (by simp)).cell 5
        have c58 : ∀ W, Keep [] w5 W → Calls Try.prog 58 #[.pointer (some ⟨p, 0, none⟩), .int .i64 a.n] W fun e w' => e = .returned ((t.act a).get a.n).v ∧ Below W.heap.size W w' := fun W k => at_calls (hT5.1.keep k (by simp) (by simp)) hok2.out a.n
        have c83 : ∀ W, Keep [] w5 W → Calls Try.prog 83 #[.pointer (some ⟨q, 0, none⟩), .int .i64 a.n] W fun e w' => e = .returned ((t.act a).get a.n).v ∧ Below W.heap.size W w' := fun W k => rat_calls (hT5.2.1.keep k (by simp) (by simp)) hok2.out a.n
        have c64 : ∀ W, Keep [] w5 W → Calls Try.prog 64 #[.pointer (some ⟨p, 0, none⟩)] W fun e w' => e = .returned (.int .i64 (t.act a).cur) ∧ Below W.heap.size W w' := fun W k => (cursor_calls (hT5.1.keep k (by simp) (by simp))).mono (fun e w' h => ⟨h.1, by rw [h.2]; exact Below.refl _ _⟩)
        generalize (t.act a).get a.n = g at *
        unfold C.v at c58 c83
        have hnn : ∀ W, Sem.run Try.prog (binOp .neq 60 (.agg #[.int .u8 g.ch, .bool g.at_, .int .u8 g.fa, .int .u8 g.hi, .int .u8 g.co, .int .u8 g.se]) (.agg #[.int .u8 g.ch, .bool g.at_, .int .u8 g.fa, .int .u8 g.hi, .int .u8 g.co, .int .u8 g.se])) W = .ok (.bool false) W := fun W => by rw [cell_neC, C.eqb_self]; rfl
        clear hPQ hS hks l1 l2 l3 l4 hsz1 hb2 hd2 hK5 hT5 rb1 rb2 hLD f0 f1 f2 f3 f4 f5 f6 f7 f8 f9 f10
        apply wp_region_rel 72 [_, _, _, _, _, _, _, _, _, _, _, _, _, _, _, _, _, _] (by kernel_rfl) (by kernel_rfl) (Nat.le_refl _)
        case hO =>
          refine ⟨?o0, ?o1, ?o2, ?o3, ?o4, ?o5, ?o6, ?o7, ?o8, ?o9, ?o10, ?o11, ?o12, ?o13, ?o14, ?o15, ?o16, ?o17, trivial⟩
          case o0 =>
            apply obl_val
            case hd => rfl
            intro ac W hK hF hD
            have e8 : ac.tmps.getD 8 undef = _ := hF.word 8 (by kernel_rfl)
            have hK := kd W hK
            refine ⟨rfl, ?_⟩
            (go_simp; with_reducible rfl)
          case o1 =>
            apply obl_val
            case hd => rfl
            intro ac W hK hF hD
            have e12 : ac.tmps.getD 12 undef = _ := hF.word 12 (by kernel_rfl)
            have hK := kd W hK
            refine ⟨rfl, ?_⟩
            (go_simp; with_reducible rfl)
          case o2 =>
            apply obl_val
            case hd => rfl
            intro ac W hK hF hD
            have e42 : ac.tmps.getD 42 undef = _ := hD.1
            have hK := kd W hK
            refine ⟨rfl, ?_⟩
            (go_simp; with_reducible rfl)
          case o3 =>
            apply obl_quiet
            case hd => rfl
            intro ac W hK hF hD
            have e41 : ac.tmps.getD 41 undef = _ := hD.1
            have e43 : ac.tmps.getD 43 undef = _ := hD.2.1
            refine ⟨rfl, ?_⟩
            apply enter_of
            case hr => (go_simp; first | exact ⟨rfl, rfl⟩ | rfl)
            case hc =>
              first
                | exact c58 W (kd W hK)
                | exact c83 W (kd W hK)
                | exact c64 W (kd W hK)
          case o4 =>
            apply obl_val
            case hd => rfl
            intro ac W hK hF hD
            have e10 : ac.tmps.getD 10 undef = _ := hF.word 10 (by kernel_rfl)
            have hK := kd W hK
            refine ⟨rfl, ?_⟩
            (go_simp; with_reducible rfl)
          case o5 =>
            apply obl_val
            case hd => rfl
            intro ac W hK hF hD
            have e12 : ac.tmps.getD 12 undef = _ := hF.word 12 (by kernel_rfl)
            have hK := kd W hK
            refine ⟨rfl, ?_⟩
            (go_simp; with_reducible rfl)
          case o6 =>
            apply obl_val
            case hd => rfl
            intro ac W hK hF hD
            have e46 : ac.tmps.getD 46 undef = _ := hD.1
            have hK := kd W hK
            refine ⟨rfl, ?_⟩
            (go_simp; with_reducible rfl)
          case o7 =>
            apply obl_quiet
            case hd => rfl
            intro ac W hK hF hD
            have e45 : ac.tmps.getD 45 undef = _ := hD.1
            have e47 : ac.tmps.getD 47 undef = _ := hD.2.1
            have e44 : ac.tmps.getD 44 undef = _ := hD.2.2.1
            refine ⟨rfl, ?_⟩
            apply enter_of
            case hr => (go_simp; first | exact ⟨rfl, rfl⟩ | rfl)
            case hc =>
              first
                | exact c58 W (kd W hK)
                | exact c83 W (kd W hK)
                | exact c64 W (kd W hK)
          case o8 =>
            apply obl_val
            case hd => rfl
            intro ac W hK hF hD
            have e44 : ac.tmps.getD 44 undef = _ := hD.1
            have e48 : ac.tmps.getD 48 undef = _ := hD.2.1
            have hK := kd W hK
            refine ⟨rfl, ?_⟩
            (go_simp; with_reducible rfl)
          case o9 =>
            apply obl_val
            case hd => rfl
            intro ac W hK hF hD
            have e49 : ac.tmps.getD 49 undef = _ := hD.1
            have e48 : ac.tmps.getD 48 undef = _ := hD.2.1
            have hK := kd W hK
            refine ⟨rfl, ?_⟩
            (go_simp; with_reducible rfl)
          case o10 =>
            apply obl_val
            case hd => rfl
            intro ac W hK hF hD
            have e50 : ac.tmps.getD 50 undef = _ := hD.1
            have e8 : ac.tmps.getD 8 undef = _ := hF.word 8 (by kernel_rfl)
            have hK := kd W hK
            refine ⟨⟨_, e50, rfl⟩, ?_⟩
            (go_simp; with_reducible rfl)
          case o11 =>
            apply obl_quiet
            case hd => rfl
            intro ac W hK hF hD
            have e51 : ac.tmps.getD 51 undef = _ := hD.1
            have e50 : ac.tmps.getD 50 undef = _ := hD.2.1
            refine ⟨⟨_, e50, rfl⟩, ?_⟩
            apply enter_of
            case hr => (go_simp; first | exact ⟨rfl, rfl⟩ | rfl)
            case hc =>
              first
                | exact c58 W (kd W hK)
                | exact c83 W (kd W hK)
                | exact c64 W (kd W hK)
          case o12 =>
            apply obl_val
            case hd => rfl
            intro ac W hK hF hD
            have e50 : ac.tmps.getD 50 undef = _ := hD.1
            have e10 : ac.tmps.getD 10 undef = _ := hF.word 10 (by kernel_rfl)
            have hK := kd W hK
            refine ⟨⟨_, e50, rfl⟩, ?_⟩
            (go_simp; with_reducible rfl)
          case o13 =>
            apply obl_val
            case hd => rfl
            intro ac W hK hF hD
            have e53 : ac.tmps.getD 53 undef = _ := hD.1
            have e50 : ac.tmps.getD 50 undef = _ := hD.2.1
            have hK := kd W hK
            refine ⟨⟨_, e50, rfl⟩, ?_⟩
            (go_simp; with_reducible rfl)
          case o14 =>
            apply obl_val
            case hd => rfl
            intro ac W hK hF hD
            have e54 : ac.tmps.getD 54 undef = _ := hD.1
            have e50 : ac.tmps.getD 50 undef = _ := hD.2.1
            have hK := kd W hK
            refine ⟨⟨_, e50, rfl⟩, ?_⟩
            (go_simp; with_reducible rfl)
          case o15 =>
            apply obl_val
            case hd => rfl
            intro ac W hK hF hD
            have e55 : ac.tmps.getD 55 undef = _ := hD.1
            have e50 : ac.tmps.getD 50 undef = _ := hD.2.1
            have hK := kd W hK
            refine ⟨⟨_, e50, rfl⟩, ?_⟩
            (go_simp; with_reducible rfl)
          case o16 =>
            apply obl_val
            case hd => rfl
            intro ac W hK hF hD
            have e52 : ac.tmps.getD 52 undef = _ := hD.1
            have e56 : ac.tmps.getD 56 undef = _ := hD.2.1
            have e50 : ac.tmps.getD 50 undef = _ := hD.2.2.1
            have hK := kd W hK
            refine ⟨⟨_, e50, rfl⟩, ?_⟩
            (go_simp; with_reducible rfl)
          case o17 =>
            apply obl_val
            case hd => rfl
            intro ac W hK hF hD
            have e50 : ac.tmps.getD 50 undef = _ := hD.1
            have e57 : ac.tmps.getD 57 undef = _ := hD.2.1
            have hK := kd W hK
            refine ⟨rfl, ?_⟩
            (go_simp; with_reducible rfl)
        case hQ =>
          intro ac W hK hF hD
          have e41 : ac.tmps.getD 41 undef = _ := hD.1
          have e42 : ac.tmps.getD 42 undef = _ := hD.2.1
          have e43 : ac.tmps.getD 43 undef = _ := hD.2.2.1
          have e44 : ac.tmps.getD 44 undef = _ := hD.2.2.2.1
          have e45 : ac.tmps.getD 45 undef = _ := hD.2.2.2.2.1
          have e46 : ac.tmps.getD 46 undef = _ := hD.2.2.2.2.2.1
          have e47 : ac.tmps.getD 47 undef = _ := hD.2.2.2.2.2.2.1
          have e48 : ac.tmps.getD 48 undef = _ := hD.2.2.2.2.2.2.2.1
          have e49 : ac.tmps.getD 49 undef = _ := hD.2.2.2.2.2.2.2.2.1
          have e50 : ac.tmps.getD 50 undef = _ := hD.2.2.2.2.2.2.2.2.2.1
          have e51 : ac.tmps.getD 51 undef = _ := hD.2.2.2.2.2.2.2.2.2.2.1
          have e52 : ac.tmps.getD 52 undef = _ := hD.2.2.2.2.2.2.2.2.2.2.2.1
          have e53 : ac.tmps.getD 53 undef = _ := hD.2.2.2.2.2.2.2.2.2.2.2.2.1
          have e54 : ac.tmps.getD 54 undef = _ := hD.2.2.2.2.2.2.2.2.2.2.2.2.2.1
          have e55 : ac.tmps.getD 55 undef = _ := hD.2.2.2.2.2.2.2.2.2.2.2.2.2.2.1
          have e56 : ac.tmps.getD 56 undef = _ := hD.2.2.2.2.2.2.2.2.2.2.2.2.2.2.2.1
          have e57 : ac.tmps.getD 57 undef = _ := hD.2.2.2.2.2.2.2.2.2.2.2.2.2.2.2.2.1
          have e58 : ac.tmps.getD 58 undef = _ := hD.2.2.2.2.2.2.2.2.2.2.2.2.2.2.2.2.2.1
          have e0 : ac.tmps.getD 0 undef = _ := hF.word 0 (by kernel_rfl)
          have e1 : ac.tmps.getD 1 undef = _ := hF.word 1 (by kernel_rfl)
          have e2 : ac.tmps.getD 2 undef = _ := hF.word 2 (by kernel_rfl)
          have e3 : ac.tmps.getD 3 undef = _ := hF.word 3 (by kernel_rfl)
          have e4 : ac.tmps.getD 4 undef = _ := hF.word 4 (by kernel_rfl)
          have e5 : ac.tmps.getD 5 undef = _ := hF.word 5 (by kernel_rfl)
          have e6 : ac.tmps.getD 6 undef = _ := hF.word 6 (by kernel_rfl)
          have e7 : ac.tmps.getD 7 undef = _ := hF.word 7 (by kernel_rfl)
          have e8 : ac.tmps.getD 8 undef = _ := hF.word 8 (by kernel_rfl)
          have e9 : ac.tmps.getD 9 undef = _ := hF.word 9 (by kernel_rfl)
          have e10 : ac.tmps.getD 10 undef = _ := hF.word 10 (by kernel_rfl)
          have e11 : ac.tmps.getD 11 undef = _ := hF.word 11 (by kernel_rfl)
          have e12 : ac.tmps.getD 12 undef = _ := hF.word 12 (by kernel_rfl)
          have e13 : ac.tmps.getD 13 undef = _ := hF.word 13 (by kernel_rfl)
          have e14 : ac.tmps.getD 14 undef = _ := hF.word 14 (by kernel_rfl)
          have e15 : ac.tmps.getD 15 undef = _ := hF.word 15 (by kernel_rfl)
          have e16 : ac.tmps.getD 16 undef = _ := hF.word 16 (by kernel_rfl)
          have e17 : ac.tmps.getD 17 undef = _ := hF.word 17 (by kernel_rfl)
          have e18 : ac.tmps.getD 18 undef = _ := hF.word 18 (by kernel_rfl)
          have e19 : ac.tmps.getD 19 undef = _ := hF.word 19 (by kernel_rfl)
          have e20 : ac.tmps.getD 20 undef = _ := hF.word 20 (by kernel_rfl)
          have e21 : ac.tmps.getD 21 undef = _ := hF.word 21 (by kernel_rfl)
          have e22 : ac.tmps.getD 22 undef = _ := hF.word 22 (by kernel_rfl)
          have e23 : ac.tmps.getD 23 undef = _ := hF.word 23 (by kernel_rfl)
          have e24 : ac.tmps.getD 24 undef = _ := hF.word 24 (by kernel_rfl)
          have e25 : ac.tmps.getD 25 undef = _ := hF.word 25 (by kernel_rfl)
          have e26 : ac.tmps.getD 26 undef = _ := hF.word 26 (by kernel_rfl)
          have e27 : ac.tmps.getD 27 undef = _ := hF.word 27 (by kernel_rfl)
          have e28 : ac.tmps.getD 28 undef = _ := hF.word 28 (by kernel_rfl)
          have e29 : ac.tmps.getD 29 undef = _ := hF.word 29 (by kernel_rfl)
          have e30 : ac.tmps.getD 30 undef = _ := hF.word 30 (by kernel_rfl)
          have e31 : ac.tmps.getD 31 undef = _ := hF.word 31 (by kernel_rfl)
          have e32 : ac.tmps.getD 32 undef = _ := hF.word 32 (by kernel_rfl)
          have e33 : ac.tmps.getD 33 undef = _ := hF.word 33 (by kernel_rfl)
          have e34 : ac.tmps.getD 34 undef = _ := hF.word 34 (by kernel_rfl)
          have e35 : ac.tmps.getD 35 undef = _ := hF.word 35 (by kernel_rfl)
          have e36 : ac.tmps.getD 36 undef = _ := hF.word 36 (by kernel_rfl)
          have e37 : ac.tmps.getD 37 undef = _ := hF.word 37 (by kernel_rfl)
          have e38 : ac.tmps.getD 38 undef = _ := hF.word 38 (by kernel_rfl)
          have e39 : ac.tmps.getD 39 undef = _ := hF.word 39 (by kernel_rfl)
          have e40 : ac.tmps.getD 40 undef = _ := hF.word 40 (by kernel_rfl)
          have e59 : ac.tmps.getD 59 undef = _ := hF.word 59 (by kernel_rfl)
          have e60 : ac.tmps.getD 60 undef = _ := hF.word 60 (by kernel_rfl)
          have e61 : ac.tmps.getD 61 undef = _ := hF.word 61 (by kernel_rfl)
          have e62 : ac.tmps.getD 62 undef = _ := hF.word 62 (by kernel_rfl)
          have e63 : ac.tmps.getD 63 undef = _ := hF.word 63 (by kernel_rfl)
          have e64 : ac.tmps.getD 64 undef = _ := hF.word 64 (by kernel_rfl)
          have e65 : ac.tmps.getD 65 undef = _ := hF.word 65 (by kernel_rfl)
          have e66 : ac.tmps.getD 66 undef = _ := hF.word 66 (by kernel_rfl)
          have e67 : ac.tmps.getD 67 undef = _ := hF.word 67 (by kernel_rfl)
          have e68 : ac.tmps.getD 68 undef = _ := hF.word 68 (by kernel_rfl)
          have e69 : ac.tmps.getD 69 undef = _ := hF.word 69 (by kernel_rfl)
          have e70 : ac.tmps.getD 70 undef = _ := hF.word 70 (by kernel_rfl)
          have e71 : ac.tmps.getD 71 undef = _ := hF.word 71 (by kernel_rfl)
          have ha := act_of (l := [_, _, _, _, _, _, _, _, _, _, _, _, _, _, _, _, _, _, _, _, _, _, _, _, _, _, _, _, _, _, _, _, _, _, _, _, _, _, _, _, _, _, _, _, _, _, _, _, _, _, _, _, _, _, _, _, _, _, _, _, _, _, _, _, _, _, _, _, _, _, _, _]) (by rw [hF.size]; rfl) hF.defers ⟨e0, e1, e2, e3, e4, e5, e6, e7, e8, e9, e10, e11, e12, e13, e14, e15, e16, e17, e18, e19, e20, e21, e22, e23, e24, e25, e26, e27, e28, e29, e30, e31, e32, e33, e34, e35, e36, e37, e38, e39, e40, e41, e42, e43, e44, e45, e46, e47, e48, e49, e50, e51, e52, e53, e54, e55, e56, e57, e58, e59, e60, e61, e62, e63, e64, e65, e66, e67, e68, e69, e70, e71, trivial⟩
          clear hF hD e0 e1 e2 e3 e4 e5 e6 e7 e8 e9 e10 e11 e12 e13 e14 e15 e16 e17 e18 e19 e20 e21 e22 e23 e24 e25 e26 e27 e28 e29 e30 e31 e32 e33 e34 e35 e36 e37 e38 e39 e40 e41 e42 e43 e44 e45 e46 e47 e48 e49 e50 e51 e52 e53 e54 e55 e56 e57 e58 e59 e60 e61 e62 e63 e64 e65 e66 e67 e68 e69 e70 e71
          subst ha
          have hKa := kd W hK
          clear hK kd
          go_wp2
          go_roundg (us.length - (i + 1))
          case measure => omega
          case rel =>
            refine ⟨i + 1, b2, d2, by first | rfl | (rw [WE1.out]), ⟨rfl, by omega⟩, HBD, ⟨?_⟩, ⟨KW5.out.trans hKa (by simp)⟩⟩
            rw [hstep.out, if_pos (by omega)]; exact HT5.out.keep hKa (by simp) (by simp) (by simp) (by simp)
      · have h2b : decide ((i : Int) ≥ 40) = true := decide_eq_true (by omega)
        have h2c : decide ((40 : Int) ≤ (i : Int)) = true := decide_eq_true (by omega)
        clear hfine hTT hPQ hS htx hcell hmod
        have hs84 : Calls Try.prog 84 #[.pointer (some ⟨p, 0, none⟩), .pointer (some ⟨q, 0, none⟩)] (wr.alloc (.cells #[.int .u8 a.d, .int .i64 a.n, .bool a.on, .int .u8 a.code, .int .u8 a.c.ch, .bool a.c.at_, .int .u8 a.c.fa, .int .u8 a.c.hi, .int .u8 a.c.co, .int .u8 a.c.se, .slice tt a.tx.length cp] 67)) fun e w' => e = .returned (.bool true) ∧ Below ((wr.alloc (.cells #[.int .u8 a.d, .int .i64 a.n, .bool a.on, .int .u8 a.code, .int .u8 a.c.ch, .bool a.c.at_, .int .u8 a.c.fa, .int .u8 a.c.hi, .int .u8 a.c.co, .int .u8 a.c.se, .slice tt a.tx.length cp] 67))).heap.size (wr.alloc (.cells #[.int .u8 a.d, .int .i64 a.n, .bool a.on, .int .u8 a.code, .int .u8 a.c.ch, .bool a.c.at_, .int .u8 a.c.fa, .int .u8 a.c.hi, .int .u8 a.c.co, .int .u8 a.c.se, .slice tt a.tx.length cp] 67)) w' := same84_calls (HT2.out.call ((Below.refl _ wr).alloc (Nat.le_refl _) (.cells #[.int .u8 a.d, .int .i64 a.n, .bool a.on, .int .u8 a.code, .int .u8 a.c.ch, .bool a.c.at_, .int .u8 a.c.fa, .int .u8 a.c.hi, .int .u8 a.c.co, .int .u8 a.c.se, .slice tt a.tx.length cp] 67))).1 (HT2.out.call ((Below.refl _ wr).alloc (Nat.le_refl _) (.cells #[.int .u8 a.d, .int .i64 a.n, .bool a.on, .int .u8 a.code, .int .u8 a.c.ch, .bool a.c.at_, .int .u8 a.c.fa, .int .u8 a.c.hi, .int .u8 a.c.co, .int .u8 a.c.se, .slice tt a.tx.length cp] 67))).2.1 hok.out
        have hat : ∀ V, Keep [] (wr.alloc (.cells #[.int .u8 a.d, .int .i64 a.n, .bool a.on, .int .u8 a.code, .int .u8 a.c.ch, .bool a.c.at_, .int .u8 a.c.fa, .int .u8 a.c.hi, .int .u8 a.c.co, .int .u8 a.c.se, .slice tt a.tx.length cp] 67)) V → Calls Try.prog 58 #[.pointer (some ⟨p, 0, none⟩), .int .i64 n] V fun e w' => e = .returned (t.get n).v ∧ Below V.heap.size V w' := fun V k => at_calls ((HT2.out.call ((Below.refl _ wr).alloc (Nat.le_refl _) (.cells #[.int .u8 a.d, .int .i64 a.n, .bool a.on, .int .u8 a.code, .int .u8 a.c.ch, .bool a.c.at_, .int .u8 a.c.fa, .int .u8 a.c.hi, .int .u8 a.c.co, .int .u8 a.c.se, .slice tt a.tx.length cp] 67))).1.keep k (by simp) (by simp)) hok.out n
        have hra : ∀ V, Keep [] (wr.alloc (.cells #[.int .u8 a.d, .int .i64 a.n, .bool a.on, .int .u8 a.code, .int .u8 a.c.ch, .bool a.c.at_, .int .u8 a.c.fa, .int .u8 a.c.hi, .int .u8 a.c.co, .int .u8 a.c.se, .slice tt a.tx.length cp] 67)) V → Calls Try.prog 83 #[.pointer (some ⟨q, 0, none⟩), .int .i64 n] V fun e w' => e = .returned (t.get n).v ∧ Below V.heap.size V w' := fun V k => rat_calls ((HT2.out.call ((Below.refl _ wr).alloc (Nat.le_refl _) (.cells #[.int .u8 a.d, .int .i64 a.n, .bool a.on, .int .u8 a.code, .int .u8 a.c.ch, .bool a.c.at_, .int .u8 a.c.fa, .int .u8 a.c.hi, .int .u8 a.c.co, .int .u8 a.c.se, .slice tt a.tx.length cp] 67))).2.1.keep k (by simp) (by simp)) hok.out n
        have hww := Aside0.mk (HK.out.alloc (.cells #[.int .u8 a.d, .int .i64 a.n, .bool a.on, .int .u8 a.code, .int .u8 a.c.ch, .bool a.c.at_, .int .u8 a.c.fa, .int .u8 a.c.hi, .int .u8 a.c.co, .int .u8 a.c.se, .slice tt a.tx.length cp] 67))
        obtain ⟨g, hg⟩ : ∃ g, t.get n = g := ⟨_, rfl⟩
        rw [hg] at hat hra
        unfold C.v at hat hra
        have hee : ∀ W, Sem.run Try.prog (binOp .eql 60 (.agg #[.int .u8 g.ch, .bool g.at_, .int .u8 g.fa, .int .u8 g.hi, .int .u8 g.co, .int .u8 g.se]) (.agg #[.int .u8 g.ch, .bool g.at_, .int .u8 g.fa, .int .u8 g.hi, .int .u8 g.co, .int .u8 g.se])) W = .ok (.bool true) W := fun W => by rw [cell_eqC, C.eqb_self]
        clear hg
        go_wp2_with (first
          | (go_at_call 84; (with_reducible refine hs84.mono ?_); rintro e w6 ⟨rfl, hb6⟩; have k6 := (Keep.refl [] (wr.alloc (.cells #[.int .u8 a.d, .int .i64 a.n, .bool a.on, .int .u8 a.code, .int .u8 a.c.ch, .bool a.c.at_, .int .u8 a.c.fa, .int .u8 a.c.hi, .int .u8 a.c.co, .int .u8 a.c.se, .slice tt a.tx.length cp] 67))).call hb6)
          | (go_at_call 58; (with_reducible refine (hat _ k6).mono ?_); rintro e w7 ⟨rfl, hb7⟩; have k7 := k6.call hb7)
          | (go_at_call 83; (with_reducible refine (hra _ k7).mono ?_); rintro e w8 ⟨rfl, hb8⟩; have k8 := k7.call hb8))
        go_ret
        exact ⟨by simp, (hww.out.trans k8 (by simp)).below⟩
    · have hcb : decide ((i : Int) < (us.length : Int)) = false := decide_eq_false hc
      have hok := Aside0.mk (S.ok.acts (us.take (min i 40)) (S.clr_ok M false HM.out) HM.out (fun y hy => HA.out.1 y (List.mem_of_mem_take hy)))
      generalize (S.clr M false).acts (us.take (min i 40)) = t at *
      have hs84 : Calls Try.prog 84 #[.pointer (some ⟨p, 0, none⟩), .pointer (some ⟨q, 0, none⟩)] wr fun e w' => e = .returned (.bool true) ∧ Below (wr).heap.size wr w' := same84_calls HT2.out.1 HT2.out.2.1 hok.out
      have hat : ∀ V, Keep [] wr V → Calls Try.prog 58 #[.pointer (some ⟨p, 0, none⟩), .int .i64 n] V fun e w' => e = .returned (t.get n).v ∧ Below V.heap.size V w' := fun V k => at_calls (HT2.out.1.keep k (by simp) (by simp)) hok.out n
      have hra : ∀ V, Keep [] wr V → Calls Try.prog 83 #[.pointer (some ⟨q, 0, none⟩), .int .i64 n] V fun e w' => e = .returned (t.get n).v ∧ Below V.heap.size V w' := fun V k => rat_calls (HT2.out.2.1.keep k (by simp) (by simp)) hok.out n
      have hww := Aside0.mk HK.out
      obtain ⟨g, hg⟩ : ∃ g, t.get n = g := ⟨_, rfl⟩
      rw [hg] at hat hra
      unfold C.v at hat hra
      have hee : ∀ W, Sem.run Try.prog (binOp .eql 60 (.agg #[.int .u8 g.ch, .bool g.at_, .int .u8 g.fa, .int .u8 g.hi, .int .u8 g.co, .int .u8 g.se]) (.agg #[.int .u8 g.ch, .bool g.at_, .int .u8 g.fa, .int .u8 g.hi, .int .u8 g.co, .int .u8 g.se])) W = .ok (.bool true) W := fun W => by rw [cell_eqC, C.eqb_self]
      clear hg
      go_wp2_with (first
        | (go_at_call 84; (with_reducible refine hs84.mono ?_); rintro e w6 ⟨rfl, hb6⟩; have k6 := (Keep.refl [] wr).call hb6)
        | (go_at_call 58; (with_reducible refine (hat _ k6).mono ?_); rintro e w7 ⟨rfl, hb7⟩; have k7 := k6.call hb7)
        | (go_at_call 83; (with_reducible refine (hra _ k7).mono ?_); rintro e w8 ⟨rfl, hb8⟩; have k8 := k7.call hb8))
      go_ret
      exact ⟨by simp, (hww.out.trans k8 (by simp)).below⟩

end Go.Proofs.Ytangandfgbnomaa.V
