/- The reference's act behind an entry; any act of the cursor on the reference's space; a row of such acts opened; two spaces that are alike but for the cursor don't differ. -/
import Derived.Test.YtangandfgbnomaaVCB
import Derived.Test.YtangandfgbnomaaVR5
import Derived.Test.YtangandfgbnomaaVX
namespace Go.Proofs.Ytangandfgbnomaa.V
open Go.RowKit Go.Shelf
set_option linter.unusedVariables false
set_option linter.unusedSimpArgs false


attribute [local go_sem] Oper.semAt_some
set_option maxRecDepth 100000 in
set_option maxHeartbeats 4000000 in
theorem rcdo_5 {w : World} {p b : Nat} {s : S} (h : RSp w p b s) (ok : s.ok) (a : CA) (hf : a.fine) (hd : a.d % 6 = 5) : Calls Try.prog 127 #[.pointer (some ⟨p, 0, none⟩), a.v] w (RPost w p b s a) := by
  have hdt : a.d.tmod 6 = 5 := by rw [Int.tmod_eq_emod_of_nonneg hf.1]; exact hd
  have hto := (cto_of s a).2.2.2.2.2 hd
  obtain ⟨c1, e1, l1⟩ := wrp_dom ok (s.cur + 1)
  have ok1 := S.to_ok ok l1
  obtain ⟨c, hc⟩ : ∃ c, s.l.getD c1 C.zero = c := ⟨_, rfl⟩
  have haf : s.aft = if c.at_ = true then (if c.skp = true then tabn s.l c1 false else wrp s.r s.c ((c1 : Int) + 1)) else (c1 : Int) := by
    unfold S.aft
    rw [e1]
    simp only [Int.toNat_natCast, hc]
  have hlen := (ok.ix 0).2.2.1
  have hcu := ok.curN
  have ci0 : (0 : Int) ≤ (c1 : Int) := by omega
  have ci1 : (c1 : Int) < (s.l.length : Int) := by omega
  obtain ⟨cap, hcap, hlt, x2, x3, x4, x5, xf, xl⟩ := rcur_rules h
  have k0 := (Keep.refl [] w).alloc (.cells #[.int .u8 a.d, .int .i64 a.a, .int .i64 a.b] 133)
  have y5 := x5 _ k0
  have q65 : ∀ W, Keep [] w W → Calls Try.prog 65 #[.pointer (some ⟨p, 0, none⟩), .int .i64 (s.cur + 1)] W fun e w' => e = .returned (.int .i64 (c1 : Int)) ∧ Below W.heap.size W w' := fun W k => by
    have := rwrap_calls (h.keep k (by simp) (by simp)) (s.cur + 1)
    rw [e1] at this; exact this
  have q88 : ∀ W, RSp W p b (s.to c1) → Calls Try.prog 88 #[.pointer (some ⟨p, 0, none⟩), .int .i64 (c1 : Int)] W fun e w' => e = .returned (.agg #[.bool (decide (32 ≤ c.fa)), .bool (decide (c.fa / 16 % 2 = 1)), .int .i64 (c.fa / 4 % 4), .bool (decide (c.fa % 2 = 1))]) ∧ Below W.heap.size W w' := fun W h => by
    have := rfield_calls h ok1 (a := c1) l1
    rw [show (s.to c1).l.getD c1 C.zero = c from hc] at this; exact this
  have q155 : ∀ W, RSp W p b (s.to c1) → Calls Try.prog 155 #[.pointer (some ⟨p, 0, none⟩), .int .i64 (c1 : Int), .bool false] W fun e w' => e = .returned (.int .i64 (tabn s.l c1 false)) ∧ Below W.heap.size W w' := fun W h => by
    have := rtab_calls h ok1 (c1 : Int) false
    rw [ok1.self (n := c1) l1] at this; exact this
  have q65b : ∀ W, RSp W p b (s.to c1) → Calls Try.prog 65 #[.pointer (some ⟨p, 0, none⟩), .int .i64 ((c1 : Int) + 1)] W fun e w' => e = .returned (.int .i64 (wrp s.r s.c ((c1 : Int) + 1))) ∧ Below W.heap.size W w' := fun W h => rwrap_calls h _
  have h6 : ∀ W, RSp W p b (s.to c1) → _ := fun W h => RSp.six h c1 l1 c hc
  have hr : ∀ W, RSp W p b (s.to c1) → _ := fun W h => rcur_rules h
  have wa : wrap64 (s.cur + 1) = s.cur + 1 := wrap64_id (by omega) (by omega)
  have wb : wrap64 ((c1 : Int) + 1) = (c1 : Int) + 1 := wrap64_id (by omega) (by omega)
  have HTO := Aside0.mk (hto.trans haf)
  have HH := Aside0.mk h
  have HC := Aside0.mk (show c.skp = (decide (32 ≤ c.fa) && decide (c.fa / 16 % 2 = 1)) from rfl)
  have hne := h.ne
  have fin : ∀ (W : World) (n : Int), RSp W p b (s.to c1) → Keep [p] w W → s.cto a = n → RPost w p b s a (.returned (.tuple #[])) (W.setCell ⟨p, 5, none⟩ (.int .i64 n)) := fun W n hW kW hn => by
    refine ⟨rfl, ?_, kW.setCell (p := ⟨p, 5, none⟩) (.inl (List.mem_singleton.2 rfl)) _⟩
    unfold S.cdo
    rw [hn]; exact hW.to n
  have FIN := Aside0.mk fin
  obtain ⟨pr, hpr⟩ : ∃ pr, decide (32 ≤ c.fa) = pr := ⟨_, rfl⟩
  obtain ⟨nu, hnu⟩ : ∃ nu, decide (c.fa / 16 % 2 = 1) = nu := ⟨_, rfl⟩
  obtain ⟨at_, hat⟩ : ∃ q, c.at_ = q := ⟨_, rfl⟩
  rw [hpr, hnu] at HC
  rw [hat] at HTO
  have HAT := Aside0.mk hat
  simp only [hpr, hnu] at q88
  clear hto haf hf hd h e1 ok1 hc hcu hlen hpr hnu hat fin
  cases at_
  · go_enter Try.func127, Try.ntmps127
    go_wp2_with (go_at_call 65; (with_reducible refine (q65 _ k0).mono ?_); rintro e w2 ⟨rfl, hb2⟩; have k2 := k0.call hb2; have yf := xf _ 5 k2; have yl := xl _ k2; have r2 := HH.out.keep k2 (by simp) (by simp); have r3 := r2.to (c1 : Int); have kk2 := Aside0.mk (k2.zero.setCell (R := [p]) (p := ⟨p, 5, none⟩) (.inl (List.mem_singleton.2 rfl)) (.int .i64 (c1 : Int))); obtain ⟨z0, z1, z2, z3, z4, z5⟩ := h6 _ r3; obtain ⟨cap3, hcap3, _, _, _, v4, v5, vf, vl⟩ := hr _ r3; have kz := Keep.refl [] (w2.setCell ⟨p, 5, none⟩ (.int .i64 (c1 : Int))); have u0 := z0 _ kz; have u1 := z1 _ kz; have u2 := z2 _ kz; have u3 := z3 _ kz; have u4 := z4 _ kz; have u5 := z5 _ kz; have u6 := v4 _ kz; rw [HAT.out] at u1; have R3 := Aside0.mk r3; clear r3 z0 z1 z2 z3 z4 z5)
    go_wp2
    go_end0
    have e := HTO.out
    simp only [Bool.false_eq_true, if_false] at e
    refine ⟨rfl, ?_, (kk2.out.alloc _)⟩
    unfold S.cdo
    rw [e]
    exact R3.out.keep ((Keep.refl [] _).alloc _) (by simp) (by simp)
  · simp only [if_true] at HTO
    have o6 : ∀ W, Aside0 (Blk W w.heap.size [.int .u8 a.d, .int .i64 a.a, .int .i64 a.b] 133) → True := fun _ _ => trivial
    clear o6
    cases pr
    · go_enter Try.func127, Try.ntmps127
      go_wp2_with (go_at_call 65; (with_reducible refine (q65 _ k0).mono ?_); rintro e w2 ⟨rfl, hb2⟩; have k2 := k0.call hb2; have yf := xf _ 5 k2; have yl := xl _ k2; have r2 := HH.out.keep k2 (by simp) (by simp); have r3 := r2.to (c1 : Int); have kk2 := Aside0.mk (k2.zero.setCell (R := [p]) (p := ⟨p, 5, none⟩) (.inl (List.mem_singleton.2 rfl)) (.int .i64 (c1 : Int))); obtain ⟨z0, z1, z2, z3, z4, z5⟩ := h6 _ r3; obtain ⟨cap3, hcap3, _, _, _, v4, v5, vf, vl⟩ := hr _ r3; have kz := Keep.refl [] (w2.setCell ⟨p, 5, none⟩ (.int .i64 (c1 : Int))); have u0 := z0 _ kz; have u1 := z1 _ kz; have u2 := z2 _ kz; have u3 := z3 _ kz; have u4 := z4 _ kz; have u5 := z5 _ kz; have u6 := v4 _ kz; rw [HAT.out] at u1; have R3 := Aside0.mk r3; clear r3 z0 z1 z2 z3 z4 z5)
      go_wp2_with (first
        | (go_at_call 88; (with_reducible refine (q88 _ (R3.out.keep ((Keep.refl [] _).alloc _) (by simp) (by simp))).mono ?_); rintro e w3 ⟨rfl, hb3⟩; have r4 := (R3.out.keep ((Keep.refl [] _).alloc (.cells #[.int .u8 c.ch, .bool true, .int .u8 c.fa, .int .u8 c.hi, .int .u8 c.co, .int .u8 c.se] 60)) (by simp) (by simp)).keep (Keep.of_below hb3 []) (by simp) (by simp); have R4 := Aside0.mk (r4.keep ((Keep.refl [] _).alloc (.cells #[.bool false, .bool nu, .int .i64 (c.fa / 4 % 4), .bool (decide (c.fa % 2 = 1))] 106)) (by simp) (by simp)); have K4 := Aside0.mk (((kk2.out.alloc (.cells #[.int .u8 c.ch, .bool true, .int .u8 c.fa, .int .u8 c.hi, .int .u8 c.co, .int .u8 c.se] 60)).call hb3).alloc (.cells #[.bool false, .bool nu, .int .i64 (c.fa / 4 % 4), .bool (decide (c.fa % 2 = 1))] 106)))
        | (go_at_call 65; (with_reducible refine (q65b _ R4.out).mono ?_); rintro e w5 ⟨rfl, hb5⟩; have r5 := R4.out.keep (Keep.of_below hb5 []) (by simp) (by simp); obtain ⟨cap5, _, yl5, _, _, _, v55, vf5, vl5⟩ := hr _ r5; have kz5 := Keep.refl [] w5; have yf5 := vf5 _ 5 kz5; have w55 := v55 _ kz5))
      go_end0
      have e := HTO.out
      rw [HC.out] at e
      simp only [Bool.false_and, Bool.true_and, Bool.false_eq_true, if_true, if_false] at e
      exact FIN.out _ _ r5 (K4.out.call hb5) e
    · cases nu
      · go_enter Try.func127, Try.ntmps127
        go_wp2_with (go_at_call 65; (with_reducible refine (q65 _ k0).mono ?_); rintro e w2 ⟨rfl, hb2⟩; have k2 := k0.call hb2; have yf := xf _ 5 k2; have yl := xl _ k2; have r2 := HH.out.keep k2 (by simp) (by simp); have r3 := r2.to (c1 : Int); have kk2 := Aside0.mk (k2.zero.setCell (R := [p]) (p := ⟨p, 5, none⟩) (.inl (List.mem_singleton.2 rfl)) (.int .i64 (c1 : Int))); obtain ⟨z0, z1, z2, z3, z4, z5⟩ := h6 _ r3; obtain ⟨cap3, hcap3, _, _, _, v4, v5, vf, vl⟩ := hr _ r3; have kz := Keep.refl [] (w2.setCell ⟨p, 5, none⟩ (.int .i64 (c1 : Int))); have u0 := z0 _ kz; have u1 := z1 _ kz; have u2 := z2 _ kz; have u3 := z3 _ kz; have u4 := z4 _ kz; have u5 := z5 _ kz; have u6 := v4 _ kz; rw [HAT.out] at u1; have R3 := Aside0.mk r3; clear r3 z0 z1 z2 z3 z4 z5)
        go_wp2_with (first
          | (go_at_call 88; (with_reducible refine (q88 _ (R3.out.keep ((Keep.refl [] _).alloc _) (by simp) (by simp))).mono ?_); rintro e w3 ⟨rfl, hb3⟩; have r4 := (R3.out.keep ((Keep.refl [] _).alloc (.cells #[.int .u8 c.ch, .bool true, .int .u8 c.fa, .int .u8 c.hi, .int .u8 c.co, .int .u8 c.se] 60)) (by simp) (by simp)).keep (Keep.of_below hb3 []) (by simp) (by simp); have R4 := Aside0.mk (r4.keep ((Keep.refl [] _).alloc (.cells #[.bool true, .bool false, .int .i64 (c.fa / 4 % 4), .bool (decide (c.fa % 2 = 1))] 106)) (by simp) (by simp)); have K4 := Aside0.mk (((kk2.out.alloc (.cells #[.int .u8 c.ch, .bool true, .int .u8 c.fa, .int .u8 c.hi, .int .u8 c.co, .int .u8 c.se] 60)).call hb3).alloc (.cells #[.bool true, .bool false, .int .i64 (c.fa / 4 % 4), .bool (decide (c.fa % 2 = 1))] 106)))
          | (go_at_call 65; (with_reducible refine (q65b _ R4.out).mono ?_); rintro e w5 ⟨rfl, hb5⟩; have r5 := R4.out.keep (Keep.of_below hb5 []) (by simp) (by simp); obtain ⟨cap5, _, yl5, _, _, _, v55, vf5, vl5⟩ := hr _ r5; have kz5 := Keep.refl [] w5; have yf5 := vf5 _ 5 kz5; have w55 := v55 _ kz5))
        go_end0
        have e := HTO.out
        rw [HC.out] at e
        simp only [Bool.false_and, Bool.true_and, Bool.false_eq_true, if_true, if_false] at e
        exact FIN.out _ _ r5 (K4.out.call hb5) e
      · go_enter Try.func127, Try.ntmps127
        go_wp2_with (go_at_call 65; (with_reducible refine (q65 _ k0).mono ?_); rintro e w2 ⟨rfl, hb2⟩; have k2 := k0.call hb2; have yf := xf _ 5 k2; have yl := xl _ k2; have r2 := HH.out.keep k2 (by simp) (by simp); have r3 := r2.to (c1 : Int); have kk2 := Aside0.mk (k2.zero.setCell (R := [p]) (p := ⟨p, 5, none⟩) (.inl (List.mem_singleton.2 rfl)) (.int .i64 (c1 : Int))); obtain ⟨z0, z1, z2, z3, z4, z5⟩ := h6 _ r3; obtain ⟨cap3, hcap3, _, _, _, v4, v5, vf, vl⟩ := hr _ r3; have kz := Keep.refl [] (w2.setCell ⟨p, 5, none⟩ (.int .i64 (c1 : Int))); have u0 := z0 _ kz; have u1 := z1 _ kz; have u2 := z2 _ kz; have u3 := z3 _ kz; have u4 := z4 _ kz; have u5 := z5 _ kz; have u6 := v4 _ kz; rw [HAT.out] at u1; have R3 := Aside0.mk r3; clear r3 z0 z1 z2 z3 z4 z5)
        go_wp2_with (first
          | (go_at_call 88; (with_reducible refine (q88 _ (R3.out.keep ((Keep.refl [] _).alloc _) (by simp) (by simp))).mono ?_); rintro e w3 ⟨rfl, hb3⟩; have r4 := (R3.out.keep ((Keep.refl [] _).alloc (.cells #[.int .u8 c.ch, .bool true, .int .u8 c.fa, .int .u8 c.hi, .int .u8 c.co, .int .u8 c.se] 60)) (by simp) (by simp)).keep (Keep.of_below hb3 []) (by simp) (by simp); have R4 := Aside0.mk (r4.keep ((Keep.refl [] _).alloc (.cells #[.bool true, .bool true, .int .i64 (c.fa / 4 % 4), .bool (decide (c.fa % 2 = 1))] 106)) (by simp) (by simp)); have K4 := Aside0.mk (((kk2.out.alloc (.cells #[.int .u8 c.ch, .bool true, .int .u8 c.fa, .int .u8 c.hi, .int .u8 c.co, .int .u8 c.se] 60)).call hb3).alloc (.cells #[.bool true, .bool true, .int .i64 (c.fa / 4 % 4), .bool (decide (c.fa % 2 = 1))] 106)))
          | (go_at_call 155; (with_reducible refine (q155 _ R4.out).mono ?_); rintro e w5 ⟨rfl, hb5⟩; have r5 := R4.out.keep (Keep.of_below hb5 []) (by simp) (by simp); obtain ⟨cap5, _, yl5, _, _, _, v55, vf5, vl5⟩ := hr _ r5; have kz5 := Keep.refl [] w5; have yf5 := vf5 _ 5 kz5; have w55 := v55 _ kz5))
        go_end0
        have e := HTO.out
        rw [HC.out] at e
        simp only [Bool.false_and, Bool.true_and, Bool.false_eq_true, if_true, if_false] at e
        exact FIN.out _ _ r5 (K4.out.call hb5) e

end Go.Proofs.Ytangandfgbnomaa.V
