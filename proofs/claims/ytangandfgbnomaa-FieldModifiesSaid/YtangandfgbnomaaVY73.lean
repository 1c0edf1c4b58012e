/- The walk of a law's lay. -/
import Derived.Test.YtangandfgbnomaaVY
namespace Go.Proofs.Ytangandfgbnomaa.V
open Go.RowKit
set_option linter.unusedVariables false
set_option linter.unusedSimpArgs false


set_option maxRecDepth 100000 in
set_option maxHeartbeats 4000000 in
theorem lay73 {w : World} (mo : Int) (hmo : 0 ≤ mo ∧ mo < 256) (ta : Option Addr) (cap : Nat) (us : List Ac) (hA : Acts w ta us) (hul : us.length ≤ maxLen) :
    Calls Try.prog 73 #[.int .u8 mo, .slice ta us.length cap] w fun e w' => ∃ p b q d, e = .returned (.tuple #[.pointer (some ⟨p, 0, none⟩), .pointer (some ⟨q, 0, none⟩)]) ∧ (w.heap.size ≤ p ∧ w.heap.size ≤ b ∧ w.heap.size ≤ q ∧ w.heap.size ≤ d) ∧
      Two w' p b q d ((S.clr (2 + mo % 4) false).acts (us.take 30)) ∧ Keep [] w w' := by
  have hm4 : mo.tmod 4 = mo % 4 := Int.tmod_eq_emod_of_nonneg hmo.1
  have hmm : 2 ≤ 2 + mo % 4 ∧ 2 + mo % 4 ≤ 5 := by omega
  have hw1 : wrap64 (mo % 4) = mo % 4 := by unfold wrap64; omega
  have hw2 : wrap64 (2 + mo % 4) = 2 + mo % 4 := by unfold wrap64; omega
  have hw3 : wrap64 (mo.tmod 4) = mo % 4 := by rw [hm4]; exact hw1
  obtain ⟨M, hM⟩ : ∃ M, 2 + mo % 4 = M := ⟨_, rfl⟩
  rw [hM] at hw2 hmm ⊢
  have hul' : us.length ≤ 9223372036854775807 := hul
  have HA := Aside0.mk hA
  have HM := Aside0.mk hmm
  have HL := Aside0.mk hul'
  clear hA hul hul' hmo hmm
  go_enter Try.func73, Try.ntmps73
  go_wp2_with (first
    | (go_at_call 54; go_loud (with_reducible refine (new_calls _ M HM.out).mono ?_); rintro e w2 ⟨p, b, rfl, hp, hb, hs, hk2⟩)
    | (go_at_call 55; go_loud (with_reducible refine (rnew_calls _ M HM.out).mono ?_); rintro e w3 ⟨q, d, rfl, hq, hd, hx, hk3⟩))
  have hsp3 := hs.keep hk3 (by simp) (by simp)
  have plt : p < w2.heap.size := by obtain ⟨_, _, _, x, _⟩ := id hs; exact x.lt
  have blt : b < w2.heap.size := by obtain ⟨_, _, _, _, x⟩ := id hs; exact x.lt
  have W3 : Keep [] w w3 := hk2.trans hk3 (by simp)
  have hk2s := hk2.size
  have hpq : w.heap.size ≤ p ∧ w.heap.size ≤ q ∧ w.heap.size ≤ b ∧ w.heap.size ≤ d := by omega
  have T3' := Aside0.mk (show Two w3 p b q d (S.clr M false) from ⟨hsp3, hx, by omega, by omega, by omega, by omega⟩)
  have NE := Aside0.mk (show p ≠ q ∧ b ≠ q ∧ p < w2.heap.size ∧ b < w2.heap.size ∧ w2.heap.size ≤ q ∧ w2.heap.size ≤ d from by omega)
  have K3' := Aside0.mk W3
  have PQ := Aside0.mk hpq
  clear W3 hk2 hk3 hs hsp3 hx plt blt hp hb hq hd hpq hk2s
  go_wp2_with fail
  go_loopg [27] us.length (fun kq v w' => ∃ (i d' : Nat), v = .int .i64 i ∧ Aside0 (kq = us.length - i ∧ i ≤ us.length) ∧ Aside0 (w2.heap.size ≤ d') ∧ Aside0 (PSp w' p b (S.clr M false)) ∧ Aside0 (RSp w' q d' ((S.clr M false).acts (us.take (min i 30)))) ∧ Aside0 (Keep [] w w'))
  case atStart => exact ⟨0, d, rfl, ⟨rfl, Nat.zero_le _⟩, ⟨NE.out.2.2.2.2.2⟩, ⟨T3'.out.1⟩, ⟨T3'.out.2.1⟩, K3'⟩
  case round =>
    rename World => wa
    obtain ⟨i, d', rfl, HI, HS, HP, HT2, HK⟩ := hrel
    obtain ⟨hi1, hi2⟩ := HI.out
    by_cases hc : (i : Int) < (us.length : Int)
    · have hcb : decide ((i : Int) < (us.length : Int)) = true := decide_eq_true hc
      have hil : i < us.length := by omega
      have hi0 : (0 : Int) ≤ (i : Int) := by omega
      have hul := HL.out
      obtain ⟨x, tt, cp, rfl, hcell⟩ := HA.out.2 i hil
      obtain ⟨htx, f0, f1, f2, f3, f4, f5, f6, f7, f8, f9, f10⟩ := hcell _ HK.out
      have hstep := Aside0.mk (S.acts_take (S.clr M false) us 30 i hil)
      have hfine := HA.out.1 us[i] (List.getElem_mem hil)
      have hok := Aside0.mk (S.ok.acts (us.take (min i 30)) (S.clr_ok M false HM.out) HM.out (fun y hy => HA.out.1 y (List.mem_of_mem_take hy)))
      have hmod := S.acts_model (us.take (min i 30)) (S.clr M false)
      generalize us[i] = a at *
      generalize (S.clr M false).acts (us.take (min i 30)) = t at *
      have hPQ := PQ.out
      have hS := HS.out
      have hNE := NE.out
      have hTT : ∀ o W, Keep [q, d'] (wa.alloc o) W → TxRow W tt a.tx := fun o W k => (hcell W ((HK.out.alloc o).trans k (by intro y hy; right; simp at hy; omega))).1
      by_cases h2 : (i : Int) < 30
      · have h2b : decide ((i : Int) < 30) = true := decide_eq_true h2
        have hLD : ∀ o, Calls Try.prog 149 #[.pointer (some ⟨q, 0, none⟩), .agg #[.int .u8 a.d, .int .i64 a.n, .bool a.on, .int .u8 a.code, .int .u8 a.c.ch, .bool a.c.at_, .int .u8 a.c.fa, .int .u8 a.c.hi, .int .u8 a.c.co, .int .u8 a.c.se, .slice tt a.tx.length cp]] (wa.alloc o) fun e w' => e = .returned (.tuple #[]) ∧ ∃ b', (b' = d' ∨ (wa.alloc o).heap.size ≤ b') ∧ RSp w' q b' (t.act a) ∧ Keep [q, d'] (wa.alloc o) w' := fun o => rdo (HT2.out.alloc o) hok.out (by rw [hmod]; exact HM.out) a hfine tt cp (hTT o)
        have we1 : wrap64 ((i : Int) + 1) = ((i + 1 : Nat) : Int) := by unfold wrap64; omega
        have WE1 := Aside0.mk we1
        have FA := Aside0.mk hfine
        have HC2 := Aside0.mk hcell
        clear we1 hfine hTT hPQ hS hNE htx hcell hmod
        go_wp2_with (go_at_call 149; go_loud (with_reducible refine (hLD _).mono ?_); rintro e w5 ⟨rfl, d2, hd2, hT5, hK5⟩)
        have hPQ := PQ.out
        have hS := HS.out
        have hNE := NE.out
        have hks := HK.out.size
        have hpb : p < wa.heap.size ∧ b < wa.heap.size := by obtain ⟨_, _, _, x1, x2⟩ := HP.out; exact ⟨x1.lt, x2.lt⟩
        have hqd : q < wa.heap.size ∧ d' < wa.heap.size := by obtain ⟨_, _, _, x1, x2⟩ := HT2.out; exact ⟨x1.lt, x2.lt⟩
        have hsz1 : ∀ o, (wa.alloc o).heap.size = wa.heap.size + 1 := fun o => Array.size_push ..
        rw [hsz1] at hd2
        go_roundg (us.length - (i + 1))
        case measure => omega
        case rel =>
          refine ⟨i + 1, d2, by first | rfl | (rw [WE1.out]), ⟨rfl, by omega⟩, ⟨by omega⟩, ⟨?_⟩, ⟨?_⟩, ⟨?_⟩⟩
          · exact (HP.out.alloc _).keep hK5 (by simp; omega) (by simp; omega)
          · rw [hstep.out, if_pos (by omega)]; exact hT5
          · exact (HK.out.alloc _).trans hK5 (by intro y hy; right; simp at hy; omega)
      · have h2b : decide ((i : Int) < 30) = false := decide_eq_false h2
        have we1 : wrap64 ((i : Int) + 1) = ((i + 1 : Nat) : Int) := by unfold wrap64; omega
        have WE1 := Aside0.mk we1
        have FA := Aside0.mk hfine
        have HC2 := Aside0.mk hcell
        clear we1 hfine hTT hPQ hS hNE htx hcell hmod
        go_wp2
        go_roundg (us.length - (i + 1))
        case measure => omega
        case rel =>
          refine ⟨i + 1, d', by first | rfl | (rw [WE1.out]), ⟨rfl, by omega⟩, HS, ⟨HP.out.alloc _⟩, ⟨?_⟩, ⟨HK.out.alloc _⟩⟩
          rw [hstep.out, if_neg (by omega)]; exact HT2.out.alloc _
    · have hcb : decide ((i : Int) < (us.length : Int)) = false := decide_eq_false hc
      have hie : i = us.length := by omega
      have htk : us.take (min i 30) = us.take 30 := by
        subst hie
        by_cases h30 : us.length ≤ 30
        · rw [Nat.min_eq_left h30, List.take_length, List.take_of_length_le h30]
        · rw [Nat.min_eq_right (by omega)]
      have hok := Aside0.mk (S.ok.acts (us.take 30) (S.clr_ok M false HM.out) HM.out (fun y hy => HA.out.1 y (List.mem_of_mem_take hy)))
      have hstd := Aside0.mk (S.std.acts (us.take 30) (S.clr_std M false))
      have HMD := Aside0.mk (show ((S.clr M false).acts (us.take 30)).model = M from S.acts_model _ _)
      have HT3 := HT2.out
      rw [htk] at HT3
      obtain ⟨t, ht⟩ : ∃ t, (S.clr M false).acts (us.take 30) = t := ⟨_, rfl⟩
      rw [ht] at HT3 hok hstd HMD
      have HTT := Aside0.mk ht
      clear ht HT2 htk
      obtain ⟨rc, rx, hrc, g1, g2⟩ := HT3
      have HR := Aside0.mk (show RSp wa q d' t from ⟨rc, rx, hrc, g1, g2⟩)
      have G1 := Aside0.mk g1
      have G2 := Aside0.mk g2
      have qlt := g1.lt
      have r1 := g1.cell 1
      have r4 := g1.cell 4
      simp at r1 r4
      have hp0 := S.part_zero hstd.out hok.out
      rw [HMD.out] at hp0
      have hpne := HP.out.ne
      have plt : p < wa.heap.size ∧ b < wa.heap.size := by obtain ⟨_, _, _, x1, x2⟩ := HP.out; exact ⟨x1.lt, x2.lt⟩
      have dlt := g2.lt
      have PL := Aside0.mk (And.intro plt (And.intro qlt dlt))
      have hcl : ∀ alt, Calls Try.prog 99 #[.pointer (some ⟨p, 0, none⟩), .bool alt] wa fun e w' => e = .returned (.tuple #[]) ∧ ∃ b, wa.heap.size ≤ b ∧ PSp w' p b (S.clr M alt) ∧ Keep [p] wa w' := fun alt => clear_calls HP.out HM.out alt
      have hlen := (S.ok.ix hok.out 0).2.2.1
      obtain ⟨al, hal⟩ : ∃ al, t.alt = al := ⟨_, rfl⟩
      rw [hal] at r1 hp0
      clear g1 g2 hal plt dlt hrc
      cases al
      · go_wp2_with fail
        have hs6 : PSp wa p b (t.part 0) := by rw [hp0]; exact HP.out
        have hk6 : Keep [p] wa wa := Keep.refl _ _
        have hbd : b ≠ q ∧ b ≠ d' ∧ w.heap.size ≤ b := by have h1 := NE.out; have h2 := PQ.out; have h3 := HS.out; omega
        have S6 := Aside0.mk hs6
        have K6 := Aside0.mk hk6
        have BD := Aside0.mk hbd
        have hpd : p ≠ q ∧ p ≠ d' ∧ w.heap.size ≤ p := by have h1 := NE.out; have h2 := PQ.out; have h3 := HS.out; omega
        have PD := Aside0.mk hpd
        clear hs6 hk6 hbd hpd hp0 hcl
        go_loopg [49] t.l.length (fun kq v w' => ∃ i : Nat, v = .int .i64 i ∧ Aside0 (kq = t.l.length - i ∧ i ≤ t.l.length) ∧ Aside0 (PSp w' p b (t.part i)) ∧ Aside0 (Keep [p, b] wa w'))
        case atStart => exact ⟨0, rfl, ⟨rfl, Nat.zero_le _⟩, S6, ⟨Keep.refl _ _⟩⟩
        case round =>
          obtain ⟨j, rfl, HJ, HPj, HKj⟩ := hrel
          obtain ⟨hj1, hj2⟩ := HJ.out
          have k1 : Keep [p, b] wa wr := (K6.out.mono (R' := [p, b]) (by intro y hy; left; simp at hy ⊢; omega)).trans HKj.out (fun y hy => .inl hy)
          have hG1 : Blk wr q _ 98 := G1.out.keep k1 (by have h0 := PD.out; have h1 := BD.out; simp; omega)
          have hG2 : Blk wr d' _ 60 := G2.out.keep k1 (by have h0 := PD.out; have h1 := BD.out; simp; omega)
          by_cases hcj : (j : Int) < (t.l.length : Int)
          · have hcbj : decide ((j : Int) < (t.l.length : Int)) = true := decide_eq_true hcj
            have hjl : j < t.l.length := by omega
            have hj0 : (0 : Int) ≤ (j : Int) := by omega
            obtain ⟨cj, hcj2⟩ : ∃ c, t.l.getD j C.zero = c := ⟨_, rfl⟩
            obtain ⟨x0, x1, x2, x3, x4, x5⟩ := six_rules hG2 j hjl cj hcj2
            have K0 : Keep [] wr wr := Keep.refl _ _
            have y0 := x0 _ K0
            have y1 := x1 _ K0
            have y2 := x2 _ K0
            have y3 := x3 _ K0
            have y4 := x4 _ K0
            have y5 := x5 _ K0
            have hne := cell_ne cj.ch cj.fa cj.hi cj.co cj.se 0 0 0 0 0 cj.at_ false
            obtain ⟨qz, hqz⟩ : ∃ qz, C.eqb ⟨cj.ch, cj.at_, cj.fa, cj.hi, cj.co, cj.se⟩ ⟨0, false, 0, 0, 0, 0⟩ = qz := ⟨_, rfl⟩
            rw [hqz] at hne
            have hQ := Aside0.mk (And.intro hqz hcj2)
            have hwe1 : wrap64 ((j : Int) + 1) = ((j + 1 : Nat) : Int) := by unfold wrap64; omega
            have WEj := Aside0.mk hwe1
            have hpo := S.part_ok hok.out (Nat.le_of_lt hjl)
            have hset : ∀ o, Calls Try.prog 59 #[.pointer (some ⟨p, 0, none⟩), .int .i64 j, .agg #[.int .u8 cj.ch, .bool cj.at_, .int .u8 cj.fa, .int .u8 cj.hi, .int .u8 cj.co, .int .u8 cj.se]] (wr.alloc o) fun e w' => e = .returned (.tuple #[]) ∧ PSp w' p b ((t.part j).set j cj) ∧ Keep [p, b] (wr.alloc o) w' := fun o => set_calls (HPj.out.alloc o) hpo j cj
            clear hwe1 x0 x1 x2 x3 x4 x5 K0 hqz hcj2 hG1 hG2 k1 hpo
            cases qz
            · go_wp2_with (go_at_call 59; go_loud (with_reducible refine (hset _).mono ?_); rintro e w8 ⟨rfl, hs8, hk8⟩)
              go_roundg (t.l.length - (j + 1))
              case measure => omega
              case rel =>
                refine ⟨j + 1, by first | rfl | (rw [WEj.out]), ⟨rfl, by omega⟩, ⟨?_⟩, ⟨(HKj.out.alloc _).trans hk8 (fun y hy => .inl hy)⟩⟩
                rw [S.part_step hok.out hjl, hQ.out.2]; exact hs8
            · go_wp2
              go_roundg (t.l.length - (j + 1))
              case measure => omega
              case rel =>
                refine ⟨j + 1, by first | rfl | (rw [WEj.out]), ⟨rfl, by omega⟩, ⟨?_⟩, ⟨HKj.out.alloc _⟩⟩
                have hz : t.l.getD j C.zero = C.zero := by rw [hQ.out.2]; exact (C.eqb_iff _ _).1 hQ.out.1
                rw [S.part_skip hjl hz]; exact HPj.out.alloc _
          · have hcbj : decide ((j : Int) < (t.l.length : Int)) = false := decide_eq_false hcj
            have hje : j = t.l.length := by omega
            have z5 := hG1.cell 5
            have zl := hG1.lt
            simp at z5
            have hpl := place_calls HPj.out t.cur
            rw [hje, S.part_place hok.out] at hpl
            have KK1 := Aside0.mk k1
            have HR2 := Aside0.mk (HR.out.keep k1 (by have h0 := PD.out; have h1 := BD.out; simp; omega) (by have h0 := PD.out; have h1 := BD.out; simp; omega))
            clear hG1 hG2 k1
            go_wp2_with (go_at_call 60; go_loud (with_reducible refine hpl.mono ?_); rintro e w9 ⟨rfl, hs9, hk9⟩)
            go_ret2
            have h0 := PD.out
            have h1 := BD.out
            have h2 := PQ.out
            have h3 := HS.out
            have h4 := NE.out
            have hw2 : w.heap.size ≤ d' := by have := HK.out; omega
            rw [HTT.out]
            refine ⟨p, b, q, d', rfl, ⟨h0.2.2, h1.2.2, h2.2.1, by omega⟩, ⟨hs9, HR2.out.keep hk9 (by simp; omega) (by simp; omega), by omega, by omega, by omega, by omega⟩, ?_⟩
            exact (HK.out.trans KK1.out (by intro y hy; right; simp at hy; omega)).trans hk9 (by intro y hy; right; simp at hy; omega)
      · go_wp2_with (go_at_call 99; go_loud (with_reducible refine (hcl true).mono ?_); rintro e w6 ⟨rfl, b6, hb6, hs6, hk6⟩
                     go_loud (have r4' : w6.cell? ⟨q, 4, none⟩ = some (.slice (some ⟨d', 0, none⟩) t.l.length rc) := by have h0 := PL.out; have h1 := NE.out; exact (G1.out.keep hk6 (by simp; omega)).cell 4)
                     have ql6 : q < w6.heap.size := by have := hk6.size; omega)
        rw [← hp0] at hs6
        have hbd : b6 ≠ q ∧ b6 ≠ d' ∧ w.heap.size ≤ b6 := by have h0 := PL.out; have h1 := NE.out; have h2 := PQ.out; have h3 := HS.out; have h4 := HK.out.size; omega
        have S6 := Aside0.mk hs6
        have K6 := Aside0.mk hk6
        have BD := Aside0.mk hbd
        have hpd : p ≠ q ∧ p ≠ d' ∧ w.heap.size ≤ p := by have h1 := NE.out; have h2 := PQ.out; have h3 := HS.out; omega
        have PD := Aside0.mk hpd
        clear hs6 hk6 hbd hpd hp0 hcl
        go_loopg [49] t.l.length (fun kq v w' => ∃ i : Nat, v = .int .i64 i ∧ Aside0 (kq = t.l.length - i ∧ i ≤ t.l.length) ∧ Aside0 (PSp w' p b6 (t.part i)) ∧ Aside0 (Keep [p, b6] w6 w'))
        case atStart => exact ⟨0, rfl, ⟨rfl, Nat.zero_le _⟩, S6, ⟨Keep.refl _ _⟩⟩
        case round =>
          obtain ⟨j, rfl, HJ, HPj, HKj⟩ := hrel
          obtain ⟨hj1, hj2⟩ := HJ.out
          have k1 : Keep [p, b6] wa wr := (K6.out.mono (R' := [p, b6]) (by intro y hy; left; simp at hy ⊢; omega)).trans HKj.out (fun y hy => .inl hy)
          have hG1 : Blk wr q _ 98 := G1.out.keep k1 (by have h0 := PD.out; have h1 := BD.out; simp; omega)
          have hG2 : Blk wr d' _ 60 := G2.out.keep k1 (by have h0 := PD.out; have h1 := BD.out; simp; omega)
          by_cases hcj : (j : Int) < (t.l.length : Int)
          · have hcbj : decide ((j : Int) < (t.l.length : Int)) = true := decide_eq_true hcj
            have hjl : j < t.l.length := by omega
            have hj0 : (0 : Int) ≤ (j : Int) := by omega
            obtain ⟨cj, hcj2⟩ : ∃ c, t.l.getD j C.zero = c := ⟨_, rfl⟩
            obtain ⟨x0, x1, x2, x3, x4, x5⟩ := six_rules hG2 j hjl cj hcj2
            have K0 : Keep [] wr wr := Keep.refl _ _
            have y0 := x0 _ K0
            have y1 := x1 _ K0
            have y2 := x2 _ K0
            have y3 := x3 _ K0
            have y4 := x4 _ K0
            have y5 := x5 _ K0
            have hne := cell_ne cj.ch cj.fa cj.hi cj.co cj.se 0 0 0 0 0 cj.at_ false
            obtain ⟨qz, hqz⟩ : ∃ qz, C.eqb ⟨cj.ch, cj.at_, cj.fa, cj.hi, cj.co, cj.se⟩ ⟨0, false, 0, 0, 0, 0⟩ = qz := ⟨_, rfl⟩
            rw [hqz] at hne
            have hQ := Aside0.mk (And.intro hqz hcj2)
            have hwe1 : wrap64 ((j : Int) + 1) = ((j + 1 : Nat) : Int) := by unfold wrap64; omega
            have WEj := Aside0.mk hwe1
            have hpo := S.part_ok hok.out (Nat.le_of_lt hjl)
            have hset : ∀ o, Calls Try.prog 59 #[.pointer (some ⟨p, 0, none⟩), .int .i64 j, .agg #[.int .u8 cj.ch, .bool cj.at_, .int .u8 cj.fa, .int .u8 cj.hi, .int .u8 cj.co, .int .u8 cj.se]] (wr.alloc o) fun e w' => e = .returned (.tuple #[]) ∧ PSp w' p b6 ((t.part j).set j cj) ∧ Keep [p, b6] (wr.alloc o) w' := fun o => set_calls (HPj.out.alloc o) hpo j cj
            clear hwe1 x0 x1 x2 x3 x4 x5 K0 hqz hcj2 hG1 hG2 k1 hpo
            cases qz
            · go_wp2_with (go_at_call 59; go_loud (with_reducible refine (hset _).mono ?_); rintro e w8 ⟨rfl, hs8, hk8⟩)
              go_roundg (t.l.length - (j + 1))
              case measure => omega
              case rel =>
                refine ⟨j + 1, by first | rfl | (rw [WEj.out]), ⟨rfl, by omega⟩, ⟨?_⟩, ⟨(HKj.out.alloc _).trans hk8 (fun y hy => .inl hy)⟩⟩
                rw [S.part_step hok.out hjl, hQ.out.2]; exact hs8
            · go_wp2
              go_roundg (t.l.length - (j + 1))
              case measure => omega
              case rel =>
                refine ⟨j + 1, by first | rfl | (rw [WEj.out]), ⟨rfl, by omega⟩, ⟨?_⟩, ⟨HKj.out.alloc _⟩⟩
                have hz : t.l.getD j C.zero = C.zero := by rw [hQ.out.2]; exact (C.eqb_iff _ _).1 hQ.out.1
                rw [S.part_skip hjl hz]; exact HPj.out.alloc _
          · have hcbj : decide ((j : Int) < (t.l.length : Int)) = false := decide_eq_false hcj
            have hje : j = t.l.length := by omega
            have z5 := hG1.cell 5
            have zl := hG1.lt
            simp at z5
            have hpl := place_calls HPj.out t.cur
            rw [hje, S.part_place hok.out] at hpl
            have KK1 := Aside0.mk k1
            have HR2 := Aside0.mk (HR.out.keep k1 (by have h0 := PD.out; have h1 := BD.out; simp; omega) (by have h0 := PD.out; have h1 := BD.out; simp; omega))
            clear hG1 hG2 k1
            go_wp2_with (go_at_call 60; go_loud (with_reducible refine hpl.mono ?_); rintro e w9 ⟨rfl, hs9, hk9⟩)
            go_ret2
            have h0 := PD.out
            have h1 := BD.out
            have h2 := PQ.out
            have h3 := HS.out
            have h4 := NE.out
            have hw2 : w.heap.size ≤ d' := by have := HK.out; omega
            rw [HTT.out]
            refine ⟨p, b6, q, d', rfl, ⟨h0.2.2, h1.2.2, h2.2.1, by omega⟩, ⟨hs9, HR2.out.keep hk9 (by simp; omega) (by simp; omega), by omega, by omega, by omega, by omega⟩, ?_⟩
            exact (HK.out.trans KK1.out (by intro y hy; right; simp at hy; omega)).trans hk9 (by intro y hy; right; simp at hy; omega)

end Go.Proofs.Ytangandfgbnomaa.V
