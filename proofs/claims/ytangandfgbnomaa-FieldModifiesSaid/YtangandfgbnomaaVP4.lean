/- What tabs come to, told by the program. -/
import Derived.Test.YtangandfgbnomaaVP2
import Derived.Test.YtangandfgbnomaaVNT
namespace Go.Proofs.Ytangandfgbnomaa.V
open Go.RowKit Go.Shelf
set_option linter.unusedVariables false
set_option linter.unusedSimpArgs false

attribute [local go_sem] Oper.semAt_some

theorem tabs_calls (w : World) (p : Nat) : Calls Try.prog 92 #[.pointer (some ⟨p, 0, none⟩)] w fun e w' => e = .returned (.func (.func 161) #[] #[.pointer (some ⟨w.heap.size, 0, none⟩)]) ∧ w' = w.alloc (.cells #[.pointer (some ⟨p, 0, none⟩)] 61) := by
  go_enter Try.func92, Try.ntmps92
  go_wp2
  go_ret
  exact ⟨rfl, rfl⟩

/-- A bool in a slot. -/
def boolOf : Value → Bool
  | .bool b => b
  | _ => false
theorem tbl_take_succ (l : List C) (k : Nat) (n : Nat) (h : (tbs l)[k]? = some n) : (tbl l).take (k + 1) = (tbl l).take k ++ [(n : Int)] := by
  unfold tbl
  rw [List.take_add_one, List.getElem?_map, h]; rfl

set_option maxRecDepth 100000 in
set_option maxHeartbeats 2000000 in
theorem tabs_stops {Kp : World → World → Prop} {safe : World → Nat → Prop} {good : World → Prop} {w : World} {p b : Nat} {s : S} (hS : Holds Kp safe good) (h : PSp w p b s) (ok : s.ok) {B1 : Nat}
    (h1 : Blk w B1 [.pointer (some ⟨p, 0, none⟩)] 61) (hg : good w) (hsf : safe w B1 ∧ safe w p ∧ safe w b) (n : Nat) (hn : 1 ≤ n) :
    SeqStopsK Fence.wide n Try.prog 161 #[.pointer (some ⟨B1, 0, none⟩)] (fun x : Int => #[Value.int .i64 x]) Kp (fun ys => ys = tbl s.l) (fun pre => pre <+: tbl s.l) (tbl s.l).length w := by
  intro l J Jx W hW hJ hJx hY h0
  have hs := h.keep (Keep.of_below hW []) (by simp) (by simp)
  have b1 := h1.call hW
  have hlp : p < w.heap.size ∧ b < w.heap.size := by obtain ⟨_, _, _, x1, x2⟩ := id h; exact ⟨x1.lt, x2.lt⟩
  have hgW := hS.gkeep _ _ (Keep.of_below hW []) hg
  have hsW : safe W B1 ∧ safe W p ∧ safe W b := ⟨hS.keep _ _ _ (Keep.of_below hW []) h1.lt hsf.1 hg, hS.keep _ _ _ (Keep.of_below hW []) hlp.1 hsf.2.1 hg, hS.keep _ _ _ (Keep.of_below hW []) hlp.2 hsf.2.2 hg⟩
  have hlW : p < W.heap.size ∧ b < W.heap.size := by have := hW.size; omega
  obtain ⟨_, _, hN, hN1⟩ := ok.ix 0
  have hl1 : s.ix (-1) = s.l.length - 1 := by
    have := ok.prev (n := 0) (by omega)
    rw [show ((0 : Nat) : Int) - 1 = -1 by rfl, Nat.zero_add, Nat.mod_eq_of_lt (by omega)] at this
    exact this
  have hnx1 := next_calls hs ok (-1)
  rw [hl1] at hnx1
  have e1 := b1.cell 0
  simp only [List.getElem?_cons_zero] at e1
  have k0 : Keep [] W W := Keep.refl _ _
  have HGW := Aside0.mk (And.intro hgW (And.intro hsW hlW))
  have HB1 := Aside0.mk b1
  have HJ := Aside0.mk hJ
  have HY := Aside0.mk hY
  have H0 := Aside0.mk h0
  have HS := Aside0.mk hS
  have OK := Aside0.mk ok
  have HSP := Aside0.mk hs
  have HNN := Aside0.mk (And.intro hN hN1)
  clear hS h h1 b1 hJ hJx hY h0 hg hsf hgW hsW hlW hlp hs hl1
  refine callsIn_of_wp Try.func161 rfl trivial ?_ rfl
  simp only [Try.ntmps161, List.size_toArray, List.length_cons, List.length_nil, Nat.reduceAdd, Nat.reduceSub, Array.replicate_succ, Array.replicate_zero, List.push_toArray, List.append_toArray, List.nil_append, List.cons_append]
  rcases nx_dom (l := s.l) (w := s.l.length - 1) (by omega) false with e | ⟨f, e, hf, hff⟩
  · rw [e] at hnx1
    have hT := nx_none (by omega) false e
    have HT := Aside0.mk hT
    clear e hT
    gi_wp2_with (refine ⟨trivial, ?_⟩; gi_at_call 69; (with_reducible refine (callsIn_wide.2 hnx1).mono ?_); rintro e w1 ⟨rfl, hb1⟩; have K1 := Aside0.mk (k0.call hb1))
    refine bodyPost_ret (results_none rfl _ _ _) rfl ?_
    exact ⟨⟨_, rfl⟩, .inl ⟨[], by unfold tbl; rw [HT.out]; rfl, abides_keep HJ.out H0.out K1.out⟩⟩
  · rw [e] at hnx1
    have hr0 := nx_first (by omega) e
    have HF := Aside0.mk (And.intro hf (And.intro hff hr0))
    have f0 : (0 : Int) ≤ (f : Int) := by omega
    have fb : decide ((f : Int) < 0) = false := decide_eq_false (by omega)
    clear e hr0 hf hff
    gi_wp2_with (refine ⟨trivial, ?_⟩; gi_at_call 69; (with_reducible refine (callsIn_wide.2 hnx1).mono ?_); rintro e w1 ⟨rfl, hb1⟩; have K1 := Aside0.mk (k0.call hb1))
    obtain ⟨N, hNe⟩ : ∃ N, (tbs s.l).length = N := ⟨_, rfl⟩
    have HN := Aside0.mk hNe
    have hN0 : 0 < N := by rw [← hNe]; have := rk_lt HF.out.1 HF.out.2.1; omega
    have HN0 := Aside0.mk hN0
    clear hNe hN0 hnx1 hb1
    gi_loopw [4, 5] (fun v4 v5 wr => ∃ (k m : Nat) (more : Bool), v4 = .int .i64 m ∧ v5 = .bool more ∧ Aside0 (m < s.l.length ∧ isf s.l m = true ∧ rk s.l m = k % N ∧ k ≤ N ∧ more = decide (k < N)) ∧ Aside0 (PSp wr p b s) ∧ Aside0 (Blk wr B1 [.pointer (some ⟨p, 0, none⟩)] 61) ∧ Aside0 (J ((tbl s.l).take k) wr) ∧ Aside0 (good wr ∧ safe wr B1 ∧ safe wr p ∧ safe wr b))
      (fun v4 v5 wr => if boolOf v5 = true then N - rk s.l (intOf v4).toNat else 0)
    case atStart =>
      refine ⟨0, f, true, rfl, rfl, ⟨HF.out.1, HF.out.2.1, by rw [HF.out.2.2, Nat.zero_mod], Nat.zero_le _, (decide_eq_true HN0.out).symm⟩, ⟨HSP.out.keep K1.out (by simp) (by simp)⟩, ⟨HB1.out.keep K1.out (by simp)⟩, ⟨abides_keep HJ.out H0.out K1.out⟩, ?_⟩
      exact ⟨HS.out.gkeep _ _ K1.out HGW.out.1, HS.out.keep _ _ _ K1.out HB1.out.lt HGW.out.2.1.1 HGW.out.1, HS.out.keep _ _ _ K1.out HGW.out.2.2.1 HGW.out.2.1.2.1 HGW.out.1, HS.out.keep _ _ _ K1.out HGW.out.2.2.2 HGW.out.2.1.2.2 HGW.out.1⟩
    case round =>
      obtain ⟨k, m, more, rfl, rfl, HK, HP, F1, FJ, FS⟩ := hrel
      obtain ⟨hm, hmf, hmr, hkN, hmore⟩ := HK.out
      cases more
      · have hk : k = N := by
          have := of_decide_eq_false hmore.symm
          omega
        have HKN := Aside0.mk hk
        clear hmore hk
        gi_wp2
        go_end0
        refine ⟨⟨_, rfl⟩, .inl ⟨_, ?_, FJ.out⟩⟩
        rw [HKN.out, ← HN.out, ← tbl_length, List.take_length]
      · have hk : k < N := of_decide_eq_true hmore.symm
        rw [Nat.mod_eq_of_lt hk] at hmr
        have hget : (tbs s.l)[k]? = some m := by rw [← hmr]; exact tbs_get hm hmf
        have hts := tbl_take_succ s.l k m hget
        have HTS := Aside0.mk hts
        have hlen : ((tbl s.l).take k).length < (tbl s.l).length := by rw [List.length_take, tbl_length, HN.out]; omega
        obtain ⟨m2, hm2, hm2l, hm2f⟩ := nx_some hm false (show tbs s.l ≠ [] by intro e; have := HN.out; rw [e] at this; simp at this; omega)
        have hrk2 := nx_rk hm hmf hm2
        rw [HN.out, hmr] at hrk2
        have hnx := fun V (hv : PSp V p b s) => next_calls hv OK.out (m : Int)
        simp only [OK.out.self hm, hm2] at hnx
        have hne : ((m2 : Int) != (f : Int)) = decide (k + 1 < N) := by
          have e1 : (m2 = f) ↔ ¬ (k + 1 < N) := by
            constructor
            · intro e
              have : rk s.l m2 = 0 := by rw [e]; exact HF.out.2.2
              rw [hrk2] at this
              intro hlt
              rw [Nat.mod_eq_of_lt hlt] at this
              omega
            · intro hlt
              have e2 : k + 1 = N := by omega
              rw [e2, Nat.mod_self] at hrk2
              have g1 := tbs_get hm2l hm2f
              have g2 := tbs_get HF.out.1 HF.out.2.1
              rw [hrk2] at g1
              rw [HF.out.2.2, g1] at g2
              exact Option.some.inj g2
          by_cases hlt : k + 1 < N
          · rw [decide_eq_true hlt]
            have : ¬ m2 = f := fun e => e1.1 e hlt
            simp only [bne_iff_ne, ne_eq]; omega
          · rw [decide_eq_false hlt]
            have : m2 = f := e1.2 hlt
            rw [this]; simp
        obtain ⟨fn, tmps, assign, body, hy, hR⟩ := HY.out _ (m : Int) wr FJ.out hlen
        have HM := Aside0.mk (And.intro hm (And.intro hmr (And.intro hm2l (And.intro hm2f (And.intro hrk2 hk)))))
        have hlr : p < wr.heap.size ∧ b < wr.heap.size := by obtain ⟨_, _, _, x1, x2⟩ := id HP.out; exact ⟨x1.lt, x2.lt⟩
        have HLR := Aside0.mk hlr
        clear hm hmf hmr hkN hmore hts hlen hm2 hget hm2l hm2f hrk2 hk hlr
        gi_wp2
        refine hR.mono ?_
        rintro e W3 (⟨rfl, hJ3, hk3⟩ | ⟨rfl, hJx3⟩)
        · have G1 := HS.out.blk _ _ _ _ _ hk3 FS.out.2.1 F1.out
          have GP := HS.out.psp hk3 FS.out.2.2.1 FS.out.2.2.2 HP.out
          have hnx2 := hnx W3 GP
          have c4 := G1.cell 0
          simp only [List.getElem?_cons_zero] at c4
          have FS3 : Aside0 (good W3 ∧ safe W3 B1 ∧ safe W3 p ∧ safe W3 b) := ⟨HS.out.gkp _ _ hk3 FS.out.1, HS.out.kp _ _ _ hk3 F1.out.lt FS.out.2.1, HS.out.kp _ _ _ hk3 HLR.out.1 FS.out.2.2.1, HS.out.kp _ _ _ hk3 HLR.out.2 FS.out.2.2.2⟩
          have GG := Aside0.mk (And.intro G1 GP)
          have HJ3 := Aside0.mk hJ3
          have hl3 : p < W3.heap.size ∧ b < W3.heap.size := by obtain ⟨_, _, _, x1, x2⟩ := id GP; exact ⟨x1.lt, x2.lt⟩
          have HL3 := Aside0.mk hl3
          clear G1 GP hJ3 hk3 hnx hl3
          gi_wp2_with (refine ⟨trivial, ?_⟩; gi_at_call 69; (with_reducible refine (callsIn_wide.2 hnx2).mono ?_); rintro e w6 ⟨rfl, hb6⟩
                       have HB6 := Aside0.mk (Keep.of_below hb6 []))
          go_roundw
          case rel =>
            refine ⟨k + 1, m2, decide (k + 1 < N), rfl, rfl, ⟨HM.out.2.2.1, HM.out.2.2.2.1, HM.out.2.2.2.2.1, HM.out.2.2.2.2.2, rfl⟩, ⟨GG.out.2.keep HB6.out (by simp) (by simp)⟩, ⟨GG.out.1.keep HB6.out (by simp)⟩, ⟨?_⟩, ?_⟩
            · rw [HTS.out]; exact abides_keep HJ.out HJ3.out HB6.out
            · have q := FS3.out
              exact ⟨HS.out.gkeep _ _ HB6.out q.1, HS.out.keep _ _ _ HB6.out GG.out.1.lt q.2.1 q.1, HS.out.keep _ _ _ HB6.out HL3.out.1 q.2.2.1 q.1, HS.out.keep _ _ _ HB6.out HL3.out.2 q.2.2.2 q.1⟩
          case measure =>
            have h1 := HM.out
            rw [if_pos (show boolOf (.bool true) = true from rfl)]
            by_cases hlt : k + 1 < N
            · rw [if_pos (show boolOf (.bool (decide (k + 1 < N))) = true from decide_eq_true hlt)]
              simp only [intOf, Int.toNat_natCast]
              rw [h1.2.1, h1.2.2.2.2.1, Nat.mod_eq_of_lt hlt]; omega
            · rw [if_neg (show ¬ boolOf (.bool (decide (k + 1 < N))) = true from by show ¬ decide (k + 1 < N) = true; simpa using hlt)]
              simp only [intOf, Int.toNat_natCast]
              rw [h1.2.1]; omega
        · gi_wp2
          refine bodyPost_ret (results_none rfl _ _ _) rfl ?_
          exact ⟨⟨_, rfl⟩, .inr ⟨(tbl s.l).take (k + 1), List.take_prefix _ _, by rw [HTS.out]; exact hJx3⟩⟩

end Go.Proofs.Ytangandfgbnomaa.V
