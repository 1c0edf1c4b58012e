/- The program's first places: attr.Of, field.first, field.find, Next and Prev. -/
import Derived.Test.YtangandfgbnomaaVU
import Derived.Test.YtangandfgbnomaaVN
namespace Go.Proofs.Ytangandfgbnomaa.V
open Go.RowKit
set_option linter.unusedVariables false
set_option linter.unusedSimpArgs false

/-- A field attribute, read. -/
abbrev fld (fa : Int) : Value := .agg #[.bool (decide (32 ≤ fa)), .bool (decide (fa / 16 % 2 = 1)), .int .i64 (fa / 4 % 4), .bool (decide (fa % 2 = 1))]

set_option maxHeartbeats 1000000 in
theorem attrOf_walk (w : World) (n : Int) (hn : 0 ≤ n ∧ n < 64) : Calls Try.prog 159 #[.int .u8 n] w fun e w' => e = .returned (.agg #[.bool (bits .and .u8 n 32 != 0), .bool (bits .and .u8 n 16 != 0), .int .i64 (wrap64 (bits .and .u8 n 12) / 4), .bool (bits .and .u8 n 1 != 0)]) ∧ Below w.heap.size w w' := by
  go_enter Try.func159, Try.ntmps159
  go_wp2
  refine bodyPost_ret (v := .agg #[.bool (bits .and .u8 n 32 != 0), .bool (bits .and .u8 n 16 != 0), .int .i64 (wrap64 (bits .and .u8 n 12) / 4), .bool (bits .and .u8 n 1 != 0)]) ?_ rfl ⟨rfl, (Below.refl _ w).alloc (Nat.le_refl _) _⟩
  simp only [results, Try.results159]
  go_simp

theorem attrOf_calls (w : World) (fa : Int) (h : 0 ≤ fa ∧ fa < 64) : Calls Try.prog 159 #[.int .u8 fa] w fun e w' => e = .returned (fld fa) ∧ Below w.heap.size w w' := by
  have := attrOf_walk w fa h
  have hh := (by decide +kernel : ∀ n : Fin 64, ((bits .and .u8 n.val 32 != 0), (bits .and .u8 n.val 16 != 0), wrap64 (bits .and .u8 n.val 12) / 4, (bits .and .u8 n.val 1 != 0)) = ((decide (32 ≤ (n.val : Int))), (decide ((n.val : Int) / 16 % 2 = 1)), ((n.val : Int) / 4 % 4), (decide ((n.val : Int) % 2 = 1)))) ⟨fa.toNat, by omega⟩
  have e : ((fa.toNat : Nat) : Int) = fa := by omega
  simp only [e, Prod.mk.injEq] at hh
  obtain ⟨h1, h2, h3, h4⟩ := hh
  rw [h1, h2, h3, h4] at this
  exact this

theorem rOf_calls (w : World) (fa : Int) (h : 0 ≤ fa ∧ fa < 64) : Calls Try.prog 160 #[.int .u8 fa] w fun e w' => e = .returned (fld fa) ∧ Below w.heap.size w w' := by
  have := of_walk w fa
  have hh := (by decide +kernel : ∀ n : Fin 64, ((decide (32 ≤ (wrap64 n.val).tmod 64)), ((wrap64 (((wrap64 n.val).tmod 64).tdiv 16)).tmod 2 == 1), ((wrap64 (((wrap64 n.val).tmod 64).tdiv 4)).tmod 4), ((wrap64 n.val).tmod 2 == 1)) = ((decide (32 ≤ (n.val : Int))), (decide ((n.val : Int) / 16 % 2 = 1)), ((n.val : Int) / 4 % 4), (decide ((n.val : Int) % 2 = 1)))) ⟨fa.toNat, by omega⟩
  have e : ((fa.toNat : Nat) : Int) = fa := by omega
  simp only [e, Prod.mk.injEq] at hh
  obtain ⟨h1, h2, h3, h4⟩ := hh
  rw [h1, h2, h3, h4] at this
  exact this

theorem S.ok.self {s : S} (h : s.ok) {n : Nat} (hn : n < s.l.length) : s.ix (n : Int) = n := by
  obtain ⟨hv, hl, _⟩ := h
  unfold S.ix wrp
  rw [if_pos hv, ← hl, Int.emod_eq_of_lt (by omega) (by omega)]
  rfl
theorem S.ok.prev {s : S} (h : s.ok) {n : Nat} (hn : n < s.l.length) : s.ix ((n : Int) - 1) = (n + s.l.length - 1) % s.l.length := by
  obtain ⟨hv, hl, _⟩ := h
  unfold S.ix wrp
  rw [if_pos hv, ← hl, ← Int.add_emod_right, show (n : Int) - 1 + (s.l.length : Int) = ((n + s.l.length - 1 : Nat) : Int) by omega, ← Int.natCast_emod]
  rfl
theorem S.ok.next {s : S} (h : s.ok) (n : Nat) : s.ix ((n : Int) + 1) = (n + 1) % s.l.length := by
  obtain ⟨hv, hl, _⟩ := h
  unfold S.ix wrp
  rw [if_pos hv, ← hl, show (n : Int) + 1 = ((n + 1 : Nat) : Int) by omega, ← Int.natCast_emod]
  rfl
theorem S.get_self {s : S} (h : s.ok) {n : Nat} (hn : n < s.l.length) : s.get (n : Int) = s.l.getD n C.zero := by unfold S.get; rw [h.self hn]
theorem S.get_prev {s : S} (h : s.ok) {n : Nat} (hn : n < s.l.length) : s.get ((n : Int) - 1) = s.l.getD ((n + s.l.length - 1) % s.l.length) C.zero := by unfold S.get; rw [h.prev hn]

theorem field103_0 : ∀ (a b d : Bool) (n : Int) (w : World), Sem.run Try.prog (Instr.field 103 (.agg #[.bool a, .bool b, .int .i64 n, .bool d]) 0) w = .ok (.bool a) w := fun _ _ _ _ _ => by kernel_rfl
theorem field106_0 : ∀ (a b d : Bool) (n : Int) (w : World), Sem.run Try.prog (Instr.field 106 (.agg #[.bool a, .bool b, .int .i64 n, .bool d]) 0) w = .ok (.bool a) w := fun _ _ _ _ _ => by kernel_rfl

set_option maxRecDepth 100000 in
set_option maxHeartbeats 2000000 in
theorem first_calls {w : World} {p b : Nat} {s : S} (h : PSp w p b s) (ok : s.ok) {n : Nat} (hn : n < s.l.length) :
    Calls Try.prog 182 #[.pointer (some ⟨p, 0, none⟩), .int .i64 n] w fun e w' => e = .returned (.bool (isf s.l n)) ∧ Below w.heap.size w w' := by
  obtain ⟨c, hc⟩ : ∃ c, s.l.getD ((n + s.l.length - 1) % s.l.length) C.zero = c := ⟨_, rfl⟩
  obtain ⟨d, hd⟩ : ∃ d, s.l.getD n C.zero = d := ⟨_, rfl⟩
  have hcf := ok.fit_get ((n : Int) - 1)
  rw [S.get_prev ok hn, hc] at hcf
  have hA1 : ∀ W, Keep [] w W → Calls Try.prog 58 #[.pointer (some ⟨p, 0, none⟩), .int .i64 ((n : Int) - 1)] W fun e w' => e = .returned (.agg #[.int .u8 c.ch, .bool c.at_, .int .u8 c.fa, .int .u8 c.hi, .int .u8 c.co, .int .u8 c.se]) ∧ Below W.heap.size W w' := fun W k => by
    have := at_calls (h.keep k (by simp) (by simp)) ok ((n : Int) - 1)
    rw [S.get_prev ok hn, hc] at this; exact this
  have hA2 : ∀ W, Keep [] w W → Calls Try.prog 58 #[.pointer (some ⟨p, 0, none⟩), .int .i64 n] W fun e w' => e = .returned (.agg #[.int .u8 d.ch, .bool d.at_, .int .u8 d.fa, .int .u8 d.hi, .int .u8 d.co, .int .u8 d.se]) ∧ Below W.heap.size W w' := fun W k => by
    have := at_calls (h.keep k (by simp) (by simp)) ok (n : Int)
    rw [S.get_self ok hn, hd] at this; exact this
  have hO : ∀ W, Calls Try.prog 159 #[.int .u8 c.fa] W fun e w' => e = .returned (fld c.fa) ∧ Below W.heap.size W w' := fun W => attrOf_calls W c.fa ⟨hcf.2.2.1, hcf.2.2.2.1⟩
  have hisf : isf s.l n = (c.at_ && (!d.at_ && !decide (32 ≤ c.fa))) := by unfold isf ata prt; rw [hc, hd]
  obtain ⟨_, _, hN, hN1⟩ := ok.ix 0
  have n0 : (0 : Int) ≤ (n : Int) := by omega
  have n1 : (n : Int) ≤ 3564 := by omega
  have HI := Aside0.mk hisf
  have f103 := field103_0
  have f60 : ∀ w, Sem.run Try.prog (Instr.field 60 (.agg #[.int .u8 d.ch, .bool d.at_, .int .u8 d.fa, .int .u8 d.hi, .int .u8 d.co, .int .u8 d.se]) 1) w = .ok (.bool d.at_) w := fun _ => by kernel_rfl
  obtain ⟨a, ha⟩ : ∃ a, c.at_ = a := ⟨_, rfl⟩
  obtain ⟨a2, ha2⟩ : ∃ a2, d.at_ = a2 := ⟨_, rfl⟩
  rw [ha, ha2] at HI
  rw [ha] at hA1
  rw [ha2] at hA2 f60
  have k0 : Keep [] w w := Keep.refl _ _
  clear hc hd hcf hisf hN hN1 h ha ha2
  cases a
  · go_enter Try.func182, Try.ntmps182
    go_wp2_with (first
      | (go_at_call 58; (with_reducible refine (hA1 _ (by repeat (first | assumption | apply Keep.alloc | apply Keep.drew | exact Keep.refl _ _))).mono ?_); rintro e w1 ⟨rfl, hb1⟩; have k1 := k0.call hb1))
    go_ret
    exact ⟨by rw [HI.out]; rfl, (k1.alloc _).below⟩
  · cases a2
    · go_enter Try.func182, Try.ntmps182
      go_wp2_with (first
        | (go_at_call 58; (with_reducible refine (hA1 _ (by repeat (first | assumption | apply Keep.alloc | apply Keep.drew | exact Keep.refl _ _))).mono ?_); rintro e w1 ⟨rfl, hb1⟩; have k1 := k0.call hb1)
        | (go_at_call 58; (with_reducible refine (hA2 _ (by repeat (first | assumption | apply Keep.alloc | apply Keep.drew | exact Keep.refl _ _))).mono ?_); rintro e w2 ⟨rfl, hb2⟩; have k2 := (k1.alloc _).call hb2; have hx2 := ((Blk.new w1 [.int .u8 c.ch, .bool true, .int .u8 c.fa, .int .u8 c.hi, .int .u8 c.co, .int .u8 c.se] 60).call hb2).cell 2; simp only [List.getElem?_cons_succ, List.getElem?_cons_zero] at hx2)
        | (go_at_call 159; (with_reducible refine (hO _).mono ?_); rintro e w3 ⟨rfl, hb3⟩; have k3 := k2.call hb3))
      go_ret
      exact ⟨by rw [HI.out]; simp, k3.below⟩
    · go_enter Try.func182, Try.ntmps182
      go_wp2_with (first
        | (go_at_call 58; (with_reducible refine (hA1 _ (by repeat (first | assumption | apply Keep.alloc | apply Keep.drew | exact Keep.refl _ _))).mono ?_); rintro e w1 ⟨rfl, hb1⟩; have k1 := k0.call hb1)
        | (go_at_call 58; (with_reducible refine (hA2 _ (by repeat (first | assumption | apply Keep.alloc | apply Keep.drew | exact Keep.refl _ _))).mono ?_); rintro e w2 ⟨rfl, hb2⟩; have k2 := (k1.alloc _).call hb2))
      go_ret
      exact ⟨by rw [HI.out]; rfl, k2.below⟩

theorem pos_step_false {N n k : Nat} (hn : n < N) (hk : k < N) : ((((if k = 0 then n else pos N n false (k - 1)) : Nat) : Int) + 1) % (N : Int) = (pos N n false k : Nat) := by
  have e : ((((if k = 0 then n else pos N n false (k - 1)) : Nat) : Int) + 1) = (((if k = 0 then n else pos N n false (k - 1)) + 1 : Nat) : Int) := by omega
  rw [e, ← Int.natCast_emod]
  congr 1
  unfold pos
  simp only [Bool.false_eq_true, if_false]
  by_cases h0 : k = 0
  · subst h0; simp
  · rw [if_neg h0, Nat.add_mod, Nat.mod_mod, ← Nat.add_mod]
    congr 1; omega
theorem pos_step_true {N n k : Nat} (hn : n < N) (hk : k < N) : ((((if k = 0 then n else pos N n true (k - 1)) : Nat) : Int) + -1) % (N : Int) = (pos N n true k : Nat) := by
  rw [← Int.add_emod_right]
  have hN : 0 < N := by omega
  have e : ((((if k = 0 then n else pos N n true (k - 1)) : Nat) : Int) + -1) + (N : Int) = (((if k = 0 then n else pos N n true (k - 1)) + (N - 1) : Nat) : Int) := by omega
  rw [e, ← Int.natCast_emod]
  congr 1
  unfold pos
  simp only [if_true]
  by_cases h0 : k = 0
  · subst h0; rw [if_pos rfl]; congr 1; omega
  · rw [if_neg h0, Nat.add_mod, Nat.mod_mod, ← Nat.add_mod, show n + N - 1 - (k - 1) + (N - 1) = (n + N - 1 - k) + N by omega, Nat.add_mod_right]

set_option maxRecDepth 100000 in
set_option maxHeartbeats 2000000 in
theorem find_false {w : World} {p b : Nat} {s : S} (h : PSp w p b s) (ok : s.ok) {n : Nat} (hn : n < s.l.length) :
    Calls Try.prog 153 #[.pointer (some ⟨p, 0, none⟩), .int .i64 n, .int .i64 1] w fun e w' => e = .returned (.int .i64 (nx s.l n false)) ∧ Below w.heap.size w w' := by
  obtain ⟨_, _, hN, hN1⟩ := ok.ix 0
  have hcel : cel s.r s.c = (s.l.length : Int) := by unfold cel; rw [if_pos ok.1, ok.2.1]
  have hsz : ∀ W, Keep [] w W → Calls Try.prog 57 #[.pointer (some ⟨p, 0, none⟩)] W fun e w' => e = .returned (.agg #[.int .i64 s.r, .int .i64 s.c]) ∧ Below W.heap.size W w' := fun W k => size_calls (h.keep k (by simp) (by simp))
  have hce : ∀ W, Calls Try.prog 33 #[.agg #[.int .i64 s.r, .int .i64 s.c]] W fun e w' => e = .returned (.int .i64 (s.l.length : Int)) ∧ Below W.heap.size W w' := fun W => by have := c_cells s.r s.c W; rw [hcel] at this; exact this
  have hfi : ∀ m : Nat, m < s.l.length → ∀ W, Keep [] w W → Calls Try.prog 182 #[.pointer (some ⟨p, 0, none⟩), .int .i64 m] W fun e w' => e = .returned (.bool (isf s.l m)) ∧ Below W.heap.size W w' := fun m hm W k => first_calls (h.keep k (by simp) (by simp)) ok hm
  obtain ⟨N, hNe⟩ : ∃ N, s.l.length = N := ⟨_, rfl⟩
  have hwr : ∀ k : Nat, k < N → wrp s.r s.c (((if k = 0 then n else pos N n false (k - 1) : Nat) : Int) + 1) = (pos N n false k : Nat) := fun k hk => by
    have hv := ok.1
    have hl := ok.2.1
    rw [hNe] at hl hn
    unfold wrp
    rw [if_pos hv, ← hl]
    exact pos_step_false hn hk
  rw [hNe] at hN hN1 hce hfi hn
  have HW := Aside0.mk hwr
  have HE := Aside0.mk hNe
  have HF := Aside0.mk hfi
  have k0 : Keep [] w w := Keep.refl _ _
  clear hwr hNe hcel h hfi
  have HNW := Aside0.mk hn
  go_enter Try.func153, Try.ntmps153
  go_wp2_with (first
    | (go_at_call 57; (with_reducible refine (hsz _ (by repeat (first | assumption | apply Keep.alloc | apply Keep.drew | exact Keep.refl _ _))).mono ?_); rintro e w1 ⟨rfl, hb1⟩; have k1 := k0.call hb1; have B1 := Blk.new w1 [.int .i64 s.r, .int .i64 s.c] 24)
    | (go_at_call 33; (with_reducible refine (hce _).mono ?_); rintro e w2 ⟨rfl, hb2⟩; have k2 := (k1.alloc _).call hb2; have B2 := B1.call hb2))
  have K2 := Aside0.mk k2
  have HB2 := Aside0.mk B2
  clear k1 k2 B1 B2 hb1 hb2
  go_loopg [1, 12] N (fun kq v1 v w' => ∃ k : Nat, v = .int .i64 k ∧ v1 = .int .i64 ((if k = 0 then n else pos N n false (k - 1) : Nat) : Int) ∧ Aside0 (kq = N - k ∧ k ≤ N) ∧ Aside0 (∀ j, j < k → isf s.l (pos N n false j) = false) ∧ Aside0 (Keep [] w2 w'))
  case atStart => exact ⟨0, rfl, rfl, ⟨rfl, Nat.zero_le _⟩, ⟨fun j hj => by omega⟩, ⟨Keep.refl _ _⟩⟩
  case round =>
    obtain ⟨k, rfl, rfl, HI, HJ, HK⟩ := hrel
    obtain ⟨hi1, hi2⟩ := HI.out
    have kk : Keep [] w wr := K2.out.trans HK.out (by simp)
    have bb := HB2.out.keep HK.out (by simp)
    by_cases hc : (k : Int) < (N : Int)
    · have hcb : decide ((k : Int) < (N : Int)) = true := decide_eq_true hc
      have hkN : k < N := by omega
      have hw := HW.out k hkN
      have hpl := pos_lt (N := N) (w := n) (k := k) (by omega) false
      have hfk := HF.out _ hpl
      have hcur : (if k = 0 then n else pos N n false (k - 1)) < N := by split; exact HNW.out; exact pos_lt (by omega) false
      generalize (if k = 0 then n else pos N n false (k - 1)) = m at *
      have hm0 : (0 : Int) ≤ (m : Int) := by omega
      have hm1 : (m : Int) ≤ 3564 := by omega
      have hwc : ∀ W, Calls Try.prog 32 #[.agg #[.int .i64 s.r, .int .i64 s.c], .int .i64 ((m : Int) + 1)] W fun e w' => e = .returned (.int .i64 (pos N n false k : Nat)) ∧ Below W.heap.size W w' := fun W => by have := c_wrap s.r s.c ((m : Int) + 1) W; rw [hw] at this; exact this
      obtain ⟨m2, hm2⟩ : ∃ m2, pos N n false k = m2 := ⟨_, rfl⟩
      rw [hm2] at hfk hwc hpl
      have hk0 : (0 : Int) ≤ (k : Int) := by omega
      have we1 : wrap64 ((k : Int) + 1) = ((k + 1 : Nat) : Int) := by unfold wrap64; omega
      have WE1 := Aside0.mk we1
      have c0 := bb.cell 0
      have c1 := bb.cell 1
      simp only [List.getElem?_cons_succ, List.getElem?_cons_zero] at c0 c1
      obtain ⟨q, hq⟩ : ∃ q, isf s.l m2 = q := ⟨_, rfl⟩
      rw [hq] at hfk
      have HQ := Aside0.mk (And.intro hq hm2)
      clear we1 hw hq hm2 bb
      cases q
      · go_wp2_with (first
          | (go_at_call 32; (with_reducible refine (hwc _).mono ?_); rintro e w3 ⟨rfl, hb3⟩; have k3 := kk.call hb3)
          | (go_at_call 182; (with_reducible refine (hfk _ (by repeat (first | assumption | apply Keep.alloc | apply Keep.drew | exact Keep.refl _ _))).mono ?_); rintro e w4 ⟨rfl, hb4⟩))
        go_roundg (N - (k + 1))
        case measure => omega
        case rel =>
          refine ⟨k + 1, by first | rfl | (rw [WE1.out]), ?_, ⟨rfl, by omega⟩, ⟨?_⟩, ⟨(HK.out.call hb3).call hb4⟩⟩
          · rw [if_neg (by omega), Nat.add_sub_cancel, HQ.out.2]
          · intro j hj
            by_cases e : j = k
            · subst e; rw [HQ.out.2]; exact HQ.out.1
            · exact HJ.out j (by omega)
      · go_wp2_with (first
          | (go_at_call 32; (with_reducible refine (hwc _).mono ?_); rintro e w3 ⟨rfl, hb3⟩; have k3 := kk.call hb3)
          | (go_at_call 182; (with_reducible refine (hfk _ (by repeat (first | assumption | apply Keep.alloc | apply Keep.drew | exact Keep.refl _ _))).mono ?_); rintro e w4 ⟨rfl, hb4⟩))
        go_ret
        refine ⟨?_, (k3.call hb4).below⟩
        have hs : srch (fun k => isf s.l (pos s.l.length n false k)) s.l.length = k := by
          rw [HE.out]
          exact srch_eq (Nat.le_of_lt hkN) HJ.out (fun _ => by rw [HQ.out.2]; exact HQ.out.1)
        unfold nx
        rw [hs, HE.out, if_pos hkN, HQ.out.2]
        rfl
    · have hcb : decide ((k : Int) < (N : Int)) = false := decide_eq_false hc
      have hkN : k = N := by omega
      have KK := Aside0.mk kk
      clear kk bb
      go_wp2
      go_ret
      refine ⟨?_, KK.out.below⟩
      have hs : srch (fun k => isf s.l (pos s.l.length n false k)) s.l.length = N := by
        rw [HE.out]
        exact srch_eq (Nat.le_refl _) (fun j hj => HJ.out j (by omega)) (fun h => absurd h (Nat.lt_irrefl _))
      unfold nx
      rw [hs, HE.out, if_neg (Nat.lt_irrefl _)]
      rfl

set_option maxRecDepth 100000 in
set_option maxHeartbeats 2000000 in
theorem find_true {w : World} {p b : Nat} {s : S} (h : PSp w p b s) (ok : s.ok) {n : Nat} (hn : n < s.l.length) :
    Calls Try.prog 153 #[.pointer (some ⟨p, 0, none⟩), .int .i64 n, .int .i64 (-1)] w fun e w' => e = .returned (.int .i64 (nx s.l n true)) ∧ Below w.heap.size w w' := by
  obtain ⟨_, _, hN, hN1⟩ := ok.ix 0
  have hcel : cel s.r s.c = (s.l.length : Int) := by unfold cel; rw [if_pos ok.1, ok.2.1]
  have hsz : ∀ W, Keep [] w W → Calls Try.prog 57 #[.pointer (some ⟨p, 0, none⟩)] W fun e w' => e = .returned (.agg #[.int .i64 s.r, .int .i64 s.c]) ∧ Below W.heap.size W w' := fun W k => size_calls (h.keep k (by simp) (by simp))
  have hce : ∀ W, Calls Try.prog 33 #[.agg #[.int .i64 s.r, .int .i64 s.c]] W fun e w' => e = .returned (.int .i64 (s.l.length : Int)) ∧ Below W.heap.size W w' := fun W => by have := c_cells s.r s.c W; rw [hcel] at this; exact this
  have hfi : ∀ m : Nat, m < s.l.length → ∀ W, Keep [] w W → Calls Try.prog 182 #[.pointer (some ⟨p, 0, none⟩), .int .i64 m] W fun e w' => e = .returned (.bool (isf s.l m)) ∧ Below W.heap.size W w' := fun m hm W k => first_calls (h.keep k (by simp) (by simp)) ok hm
  obtain ⟨N, hNe⟩ : ∃ N, s.l.length = N := ⟨_, rfl⟩
  have hwr : ∀ k : Nat, k < N → wrp s.r s.c (((if k = 0 then n else pos N n true (k - 1) : Nat) : Int) + (-1)) = (pos N n true k : Nat) := fun k hk => by
    have hv := ok.1
    have hl := ok.2.1
    rw [hNe] at hl hn
    unfold wrp
    rw [if_pos hv, ← hl]
    exact pos_step_true hn hk
  rw [hNe] at hN hN1 hce hfi hn
  have HW := Aside0.mk hwr
  have HE := Aside0.mk hNe
  have HF := Aside0.mk hfi
  have k0 : Keep [] w w := Keep.refl _ _
  clear hwr hNe hcel h hfi
  have HNW := Aside0.mk hn
  go_enter Try.func153, Try.ntmps153
  go_wp2_with (first
    | (go_at_call 57; (with_reducible refine (hsz _ (by repeat (first | assumption | apply Keep.alloc | apply Keep.drew | exact Keep.refl _ _))).mono ?_); rintro e w1 ⟨rfl, hb1⟩; have k1 := k0.call hb1; have B1 := Blk.new w1 [.int .i64 s.r, .int .i64 s.c] 24)
    | (go_at_call 33; (with_reducible refine (hce _).mono ?_); rintro e w2 ⟨rfl, hb2⟩; have k2 := (k1.alloc _).call hb2; have B2 := B1.call hb2))
  have K2 := Aside0.mk k2
  have HB2 := Aside0.mk B2
  clear k1 k2 B1 B2 hb1 hb2
  go_loopg [1, 12] N (fun kq v1 v w' => ∃ k : Nat, v = .int .i64 k ∧ v1 = .int .i64 ((if k = 0 then n else pos N n true (k - 1) : Nat) : Int) ∧ Aside0 (kq = N - k ∧ k ≤ N) ∧ Aside0 (∀ j, j < k → isf s.l (pos N n true j) = false) ∧ Aside0 (Keep [] w2 w'))
  case atStart => exact ⟨0, rfl, rfl, ⟨rfl, Nat.zero_le _⟩, ⟨fun j hj => by omega⟩, ⟨Keep.refl _ _⟩⟩
  case round =>
    obtain ⟨k, rfl, rfl, HI, HJ, HK⟩ := hrel
    obtain ⟨hi1, hi2⟩ := HI.out
    have kk : Keep [] w wr := K2.out.trans HK.out (by simp)
    have bb := HB2.out.keep HK.out (by simp)
    by_cases hc : (k : Int) < (N : Int)
    · have hcb : decide ((k : Int) < (N : Int)) = true := decide_eq_true hc
      have hkN : k < N := by omega
      have hw := HW.out k hkN
      have hpl := pos_lt (N := N) (w := n) (k := k) (by omega) true
      have hfk := HF.out _ hpl
      have hcur : (if k = 0 then n else pos N n true (k - 1)) < N := by split; exact HNW.out; exact pos_lt (by omega) true
      generalize (if k = 0 then n else pos N n true (k - 1)) = m at *
      have hm0 : (0 : Int) ≤ (m : Int) := by omega
      have hm1 : (m : Int) ≤ 3564 := by omega
      have hwc : ∀ W, Calls Try.prog 32 #[.agg #[.int .i64 s.r, .int .i64 s.c], .int .i64 ((m : Int) + -1)] W fun e w' => e = .returned (.int .i64 (pos N n true k : Nat)) ∧ Below W.heap.size W w' := fun W => by have := c_wrap s.r s.c ((m : Int) + (-1)) W; rw [hw] at this; exact this
      obtain ⟨m2, hm2⟩ : ∃ m2, pos N n true k = m2 := ⟨_, rfl⟩
      rw [hm2] at hfk hwc hpl
      have hk0 : (0 : Int) ≤ (k : Int) := by omega
      have we1 : wrap64 ((k : Int) + 1) = ((k + 1 : Nat) : Int) := by unfold wrap64; omega
      have WE1 := Aside0.mk we1
      have c0 := bb.cell 0
      have c1 := bb.cell 1
      simp only [List.getElem?_cons_succ, List.getElem?_cons_zero] at c0 c1
      obtain ⟨q, hq⟩ : ∃ q, isf s.l m2 = q := ⟨_, rfl⟩
      rw [hq] at hfk
      have HQ := Aside0.mk (And.intro hq hm2)
      clear we1 hw hq hm2 bb
      cases q
      · go_wp2_with (first
          | (go_at_call 32; (with_reducible refine (hwc _).mono ?_); rintro e w3 ⟨rfl, hb3⟩; have k3 := kk.call hb3)
          | (go_at_call 182; (with_reducible refine (hfk _ (by repeat (first | assumption | apply Keep.alloc | apply Keep.drew | exact Keep.refl _ _))).mono ?_); rintro e w4 ⟨rfl, hb4⟩))
        go_roundg (N - (k + 1))
        case measure => omega
        case rel =>
          refine ⟨k + 1, by first | rfl | (rw [WE1.out]), ?_, ⟨rfl, by omega⟩, ⟨?_⟩, ⟨(HK.out.call hb3).call hb4⟩⟩
          · rw [if_neg (by omega), Nat.add_sub_cancel, HQ.out.2]
          · intro j hj
            by_cases e : j = k
            · subst e; rw [HQ.out.2]; exact HQ.out.1
            · exact HJ.out j (by omega)
      · go_wp2_with (first
          | (go_at_call 32; (with_reducible refine (hwc _).mono ?_); rintro e w3 ⟨rfl, hb3⟩; have k3 := kk.call hb3)
          | (go_at_call 182; (with_reducible refine (hfk _ (by repeat (first | assumption | apply Keep.alloc | apply Keep.drew | exact Keep.refl _ _))).mono ?_); rintro e w4 ⟨rfl, hb4⟩))
        go_ret
        refine ⟨?_, (k3.call hb4).below⟩
        have hs : srch (fun k => isf s.l (pos s.l.length n true k)) s.l.length = k := by
          rw [HE.out]
          exact srch_eq (Nat.le_of_lt hkN) HJ.out (fun _ => by rw [HQ.out.2]; exact HQ.out.1)
        unfold nx
        rw [hs, HE.out, if_pos hkN, HQ.out.2]
        rfl
    · have hcb : decide ((k : Int) < (N : Int)) = false := decide_eq_false hc
      have hkN : k = N := by omega
      have KK := Aside0.mk kk
      clear kk bb
      go_wp2
      go_ret
      refine ⟨?_, KK.out.below⟩
      have hs : srch (fun k => isf s.l (pos s.l.length n true k)) s.l.length = N := by
        rw [HE.out]
        exact srch_eq (Nat.le_refl _) (fun j hj => HJ.out j (by omega)) (fun h => absurd h (Nat.lt_irrefl _))
      unfold nx
      rw [hs, HE.out, if_neg (Nat.lt_irrefl _)]
      rfl

end Go.Proofs.Ytangandfgbnomaa.V
