/- All cells of a screen, told by the program: the contract of its closure. -/
import Derived.Test.YtangandfgbnomaaVR0
import Derived.Test.YtangandfgbnomaaVF2
namespace Go.Proofs.Ytangandfgbnomaa.V
open Go.RowKit Go.Shelf
set_option linter.unusedVariables false
set_option linter.unusedSimpArgs false


attribute [local go_sem] Oper.semAt_some

theorem up_one {i L : Nat} (h : i < L) (hL : (L : Int) ≤ 3564) : wrap64 ((i : Int) + 1) = ((i + 1 : Nat) : Int) := by unfold wrap64; omega
theorem meas_up {i L : Nat} {x : Int} (hx : x = ((i + 1 : Nat) : Int)) (h : i < L) : L - (intOf (.int .i64 x)).toNat < L - (intOf (.int .i64 (i : Int))).toNat := by
  subst hx
  simp only [intOf, Int.toNat_natCast]
  omega

/-- What an iterator over a space at p, b asks of a round: the space stays one of Inv. -/
structure ServesI (Kp : World → World → Prop) (safe : World → Nat → Prop) (good : World → Prop) (p b : Nat) (Inv : S → Prop) : Prop extends Safe Kp safe good where
  blk : ∀ W W' X cs t, Kp W W' → X ≠ p → X ≠ b → safe W X → Blk W X cs t → Blk W' X cs t
  sp : ∀ W W' s', Kp W W' → safe W p → safe W b → PSp W p b s' → Inv s' → ∃ s'', PSp W' p b s'' ∧ Inv s''
theorem Holds.servesI {Kp : World → World → Prop} {safe : World → Nat → Prop} {good : World → Prop} (h : Holds Kp safe good) (p b : Nat) (Inv : S → Prop) : ServesI Kp safe good p b Inv where
  toSafe := h.toSafe
  blk _ _ _ _ _ k _ _ hs hB := h.blk _ _ _ _ _ k hs hB
  sp _ _ s' k hp hb hs hi := ⟨s', h.psp k hp hb hs, hi⟩

/-- The first k cells, each as it lies in a screen of Inv. -/
def AllIs (Inv : S → Prop) (k : Nat) (xs : List (Nat × C)) : Prop := xs.length = k ∧ ∀ i, i < k → ∃ s', Inv s' ∧ xs[i]? = some (i, s'.l.getD i C.zero)
theorem AllIs.nil (Inv : S → Prop) : AllIs Inv 0 [] := ⟨rfl, fun i h => by omega⟩
theorem AllIs.snoc {Inv : S → Prop} {k : Nat} {xs : List (Nat × C)} {s' : S} (h : AllIs Inv k xs) (hi : Inv s') : AllIs Inv (k + 1) (xs ++ [(k, s'.l.getD k C.zero)]) := by
  refine ⟨by rw [List.length_append, h.1]; rfl, fun i hik => ?_⟩
  by_cases e : i = k
  · subst e
    exact ⟨s', hi, by rw [List.getElem?_append_right (by rw [h.1]; omega), h.1, Nat.sub_self]; rfl⟩
  · obtain ⟨s2, h2, h3⟩ := h.2 i (by omega)
    exact ⟨s2, h2, by rw [List.getElem?_append_left (by rw [h.1]; omega)]; exact h3⟩
/-- All cells of one screen. -/
def cls (l : List C) (k : Nat) : List (Nat × C) := (List.range k).map (fun i => (i, l.getD i C.zero))
theorem cls_succ (l : List C) (k : Nat) : cls l (k + 1) = cls l k ++ [(k, l.getD k C.zero)] := by unfold cls; rw [List.range_succ, List.map_append]; rfl
theorem AllIs.exact {s : S} {k : Nat} {xs : List (Nat × C)} (h : AllIs (fun s' => s' = s) k xs) : xs = cls s.l k := by
  apply List.ext_getElem?
  intro i
  by_cases e : i < k
  · obtain ⟨s', rfl, h2⟩ := h.2 i e
    rw [h2]; unfold cls; rw [List.getElem?_map, List.getElem?_range e]; rfl
  · rw [List.getElem?_eq_none (by rw [h.1]; omega), List.getElem?_eq_none (by unfold cls; simp; omega)]

theorem all_calls (w : World) (v : Option Addr) : Calls Try.prog 162 #[.pointer v] w fun e w' => e = .returned (.func (.func 184) #[] #[.pointer (some ⟨w.heap.size, 0, none⟩)]) ∧ w' = w.alloc (.cells #[.pointer v] 61) := by
  go_enter Try.func162, Try.ntmps162
  go_wp2
  go_ret
  exact ⟨rfl, rfl⟩

set_option maxRecDepth 100000 in
set_option maxHeartbeats 4000000 in
theorem all_stops {Kp : World → World → Prop} {safe : World → Nat → Prop} {good : World → Prop} {w : World} {p b : Nat} {Inv : S → Prop} {s : S} {N : Nat} {R C' : Int} (hS : ServesI Kp safe good p b Inv) (h : PSp w p b s) (hs : Inv s)
    (hI : ∀ s', Inv s' → s'.ok ∧ s'.l.length = N ∧ s'.r = R ∧ s'.c = C') {B1 : Nat} (h1 : Blk w B1 [.pointer (some ⟨p, 0, none⟩)] 61) (hB : B1 ≠ p ∧ B1 ≠ b) (hg : good w) (hsf : safe w B1 ∧ safe w p ∧ safe w b) (n : Nat) (hn : 1 ≤ n) :
    SeqStopsK Fence.wide n Try.prog 184 #[.pointer (some ⟨B1, 0, none⟩)] (fun x : Nat × C => #[Value.int .i64 x.1, x.2.v]) Kp (AllIs Inv N) (fun pre => ∃ k, k ≤ N ∧ AllIs Inv k pre) N w := by
  intro l J Jx W hW hJ hJx hY h0
  have kW := Keep.of_below hW []
  have hp := h.keep kW (by simp) (by simp)
  have b1 := h1.call hW
  have hgW := hS.gkeep _ _ kW hg
  have hlp : p < w.heap.size ∧ b < w.heap.size := by obtain ⟨_, _, _, x1, x2⟩ := id h; exact ⟨x1.lt, x2.lt⟩
  have hsW : safe W B1 ∧ safe W p ∧ safe W b := ⟨hS.keep _ _ _ kW h1.lt hsf.1 hg, hS.keep _ _ _ kW hlp.1 hsf.2.1 hg, hS.keep _ _ _ kW hlp.2 hsf.2.2 hg⟩
  obtain ⟨ok, hN, hr, hc⟩ := hI s hs
  have hNb : N ≤ 3564 := by rw [← hN]; exact (ok.ix 0).2.2.1
  have hsz := size_calls hp
  have hce : ∀ V, Calls Try.prog 33 #[.agg #[.int .i64 s.r, .int .i64 s.c]] V fun e w' => e = .returned (.int .i64 (N : Int)) ∧ Below V.heap.size V w' := fun V => by
    have := c_cells s.r s.c V
    rw [show cel s.r s.c = (N : Int) by unfold cel; rw [if_pos ok.1, ← hN, ok.2.1]] at this
    exact this
  have c1 := b1.cell 0
  simp only [List.getElem?_cons_zero] at c1
  have k0 : Keep [] W W := Keep.refl _ _
  have HP := Aside0.mk hp
  have HB1 := Aside0.mk b1
  have HBN := Aside0.mk hB
  have HJ := Aside0.mk hJ
  have HY := Aside0.mk hY
  have H0 := Aside0.mk h0
  have HS := Aside0.mk hS
  have HI := Aside0.mk hI
  have HSS := Aside0.mk hs
  have HG := Aside0.mk (And.intro hgW hsW)
  clear hS h h1 hB hg hsf kW hp b1 hgW hlp hsW ok hr hc hJ hJx hY h0 hs hW hI hN
  refine callsIn_of_wp Try.func184 rfl trivial ?_ rfl
  simp only [Try.ntmps184, List.size_toArray, List.length_cons, List.length_nil, Nat.reduceAdd, Nat.reduceSub, Array.replicate_succ, Array.replicate_zero, List.push_toArray, List.append_toArray, List.nil_append, List.cons_append]
  gi_wp2_with (first
    | (refine ⟨trivial, ?_⟩; gi_at_call 57; (with_reducible refine (callsIn_wide.2 hsz).mono ?_); rintro e w1 ⟨rfl, hb1⟩; have k1 := k0.call hb1)
    | (refine ⟨trivial, ?_⟩; gi_at_call 33; (with_reducible refine (callsIn_wide.2 (hce _)).mono ?_); rintro e w2 ⟨rfl, hb2⟩; have K2 := Aside0.mk (k1.call hb2)))
  clear hsz hce hb1 hb2 k1 k0 c1
  gi_loopw [7] (fun v7 wr => ∃ (i : Nat) (s' : S), v7 = .int .i64 i ∧ Aside0 (i ≤ N) ∧ Aside0 (PSp wr p b s' ∧ Inv s') ∧ Aside0 (Blk wr B1 [.pointer (some ⟨p, 0, none⟩)] 61) ∧ Aside0 (∃ pre, AllIs Inv i pre ∧ J pre wr) ∧ Aside0 (good wr ∧ safe wr B1 ∧ safe wr p ∧ safe wr b))
    (fun v7 wr => N - (intOf v7).toNat)
  case atStart =>
    have hl : p < W.heap.size ∧ b < W.heap.size := by obtain ⟨_, _, _, x1, x2⟩ := HP.out; exact ⟨x1.lt, x2.lt⟩
    refine ⟨0, s, rfl, ⟨Nat.zero_le _⟩, ⟨HP.out.keep K2.out (by simp) (by simp), HSS.out⟩, ⟨HB1.out.keep K2.out (by simp)⟩, ⟨[], AllIs.nil _, abides_keep HJ.out H0.out K2.out⟩, ?_⟩
    exact ⟨HS.out.gkeep _ _ K2.out HG.out.1, HS.out.keep _ _ _ K2.out HB1.out.lt HG.out.2.1 HG.out.1, HS.out.keep _ _ _ K2.out hl.1 HG.out.2.2.1 HG.out.1, HS.out.keep _ _ _ K2.out hl.2 HG.out.2.2.2 HG.out.1⟩
  case round =>
    obtain ⟨i, s', rfl, HI2, HP2, HB2, FJ, FS⟩ := hrel
    have hi := HI2.out
    have hi0 : (0 : Int) ≤ (i : Int) := by omega
    by_cases hc : (i : Int) < (N : Int)
    · have hcb : decide ((i : Int) < (N : Int)) = true := decide_eq_true hc
      have hiN : i < N := by omega
      obtain ⟨ok, hN, _⟩ := HI.out s' HP2.out.2
      have hat : ∀ V, Keep [] wr V → Calls Try.prog 58 #[.pointer (some ⟨p, 0, none⟩), .int .i64 i] V fun e w' => e = .returned (s'.l.getD i C.zero).v ∧ Below V.heap.size V w' := fun V k => by
        have := at_calls (HP2.out.1.keep k (by simp) (by simp)) ok (i : Int)
        rw [S.get_self ok (by omega)] at this; exact this
      obtain ⟨pre, hpre, hjp⟩ := FJ.out
      have hpre2 := hpre.snoc HP2.out.2
      have HPRE := Aside0.mk hpre2
      have hlen : pre.length < N := by rw [hpre.1]; exact hiN
      obtain ⟨c, hc'⟩ : ∃ c, s'.l.getD i C.zero = c := ⟨_, rfl⟩
      rw [hc'] at hat
      unfold C.v at hat
      have hyy : ∀ V, Keep [] wr V → YieldAt Fence.wide (n - 1) Try.prog l #[Value.int .i64 i, .agg #[.int .u8 c.ch, .bool c.at_, .int .u8 c.fa, .int .u8 c.hi, .int .u8 c.co, .int .u8 c.se]] V fun e W' => (e = .returned (.bool true) ∧ J (pre ++ [(i, c)]) W' ∧ Kp V W') ∨ (e = .returned (.bool false) ∧ Jx (pre ++ [(i, c)]) W') := fun V k => HY.out pre (i, c) V (abides_keep HJ.out hjp k) hlen
      have HC := Aside0.mk hc'
      have HIN := Aside0.mk hiN
      have WE1 := Aside0.mk (up_one hiN (show (N : Int) ≤ 3564 by omega))
      have c1 := HB2.out.cell 0
      simp only [List.getElem?_cons_zero] at c1
      have K0 : Keep [] wr wr := Keep.refl _ _
      have hlr : p < wr.heap.size ∧ b < wr.heap.size := by obtain ⟨_, _, _, x1, x2⟩ := HP2.out.1; exact ⟨x1.lt, x2.lt⟩
      have HLR := Aside0.mk hlr
      clear ok hN hpre hpre2 hjp hlen hc' hiN hlr
      gi_wp2_with (first
        | (refine ⟨trivial, ?_⟩; gi_at_call 58; (with_reducible refine (callsIn_wide.2 (hat _ K0)).mono ?_); rintro e w5 ⟨rfl, hb5⟩
           have K5 := Aside0.mk (K0.call hb5)
           go_loud (obtain ⟨fn, tmps, assign, body, hy, hR⟩ := hyy _ (K0.call hb5))))
      clear hy hyy hat c1
      refine hR.mono ?_
      rintro e W3 (⟨rfl, hJ3, hk3⟩ | ⟨rfl, hJx3⟩)
      · have k5 := K5.out
        have q := FS.out
        have f1 := HS.out.keep _ _ _ k5 HB2.out.lt q.2.1 q.1
        have fp := HS.out.keep _ _ _ k5 HLR.out.1 q.2.2.1 q.1
        have fb := HS.out.keep _ _ _ k5 HLR.out.2 q.2.2.2 q.1
        have fg := HS.out.gkeep _ _ k5 q.1
        have G1 := HS.out.blk _ _ _ _ _ hk3 HBN.out.1 HBN.out.2 f1 (HB2.out.keep k5 (by simp))
        obtain ⟨s3, hs3, hi3⟩ := HS.out.sp _ _ _ hk3 fp fb (HP2.out.1.keep k5 (by simp) (by simp)) HP2.out.2
        have l5 : p < w5.heap.size ∧ b < w5.heap.size := by have := HLR.out; have := k5.size; omega
        have FS3 := Aside0.mk (show good W3 ∧ safe W3 B1 ∧ safe W3 p ∧ safe W3 b from ⟨HS.out.gkp _ _ hk3 fg, HS.out.kp _ _ _ hk3 (HB2.out.keep k5 (by simp)).lt f1, HS.out.kp _ _ _ hk3 l5.1 fp, HS.out.kp _ _ _ hk3 l5.2 fb⟩)
        have GG := Aside0.mk (And.intro G1 (And.intro hs3 hi3))
        have HJ3 := Aside0.mk hJ3
        clear k5 q f1 fp fb fg G1 hs3 hi3 l5 hJ3 hk3
        gi_wp2
        go_roundw
        case rel =>
          refine ⟨i + 1, s3, by first | rfl | rw [WE1.out] | (congr 1), ⟨HIN.out⟩, ⟨GG.out.2⟩, ⟨GG.out.1⟩, ⟨_, ?_, HJ3.out⟩, ⟨FS3.out⟩⟩
          have := HPRE.out
          rw [HC.out] at this
          exact this
        case measure => first | exact meas_up WE1.out HIN.out | exact meas_up (show ((i : Int) + 1) = ((i + 1 : Nat) : Int) by omega) HIN.out
      · gi_wp2
        refine bodyPost_ret (results_none rfl _ _ _) rfl ?_
        refine ⟨⟨_, rfl⟩, .inr ⟨pre ++ [(i, c)], ⟨i + 1, HIN.out, ?_⟩, hJx3⟩⟩
        have := HPRE.out
        rw [HC.out] at this
        exact this
    · have hcb : decide ((i : Int) < (N : Int)) = false := decide_eq_false hc
      have hiN : i = N := by omega
      have HE := Aside0.mk hiN
      clear hiN hi
      gi_wp2
      go_end0
      obtain ⟨pre, hpre, hjp⟩ := FJ.out
      rw [HE.out] at hpre
      refine ⟨⟨_, rfl⟩, .inl ⟨pre, hpre, ?_⟩⟩
      exact hjp


end Go.Proofs.Ytangandfgbnomaa.V
