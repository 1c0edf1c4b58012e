/- Walks of the reference's attribute reading, fitting and wrapping. Walks of the reference's At, Set and Put. Walks of the reference's Clear and New. Acts on a space; the walk of the reference's Do. The walk of the reference's Do. The walk of the reference's Do at a row of characters. The walk of the law's do: an act on both spaces. The walk of the law's do at a row of characters. The walk of layer 12's awake. -/
import Derived.Test.YtangandfgbnomaaVT
namespace Go.Proofs.Ytangandfgbnomaa.V
open Go.RowKit
set_option linter.unusedVariables false
set_option linter.unusedSimpArgs false


set_option maxRecDepth 100000 in
set_option maxHeartbeats 1000000 in
theorem of_walk (w : World) (x : Int) :
    Calls Try.prog 160 #[.int .u8 x] w fun e w' => e = .returned (.agg #[.bool (decide (32 ≤ (wrap64 x).tmod 64)), .bool ((wrap64 (((wrap64 x).tmod 64).tdiv 16)).tmod 2 == 1), .int .i64 ((wrap64 (((wrap64 x).tmod 64).tdiv 4)).tmod 4), .bool ((wrap64 x).tmod 2 == 1)]) ∧ Below w.heap.size w w' := by
  go_enter Try.func160, Try.ntmps160
  go_wp2
  refine bodyPost_ret (v := .agg #[.bool (decide (32 ≤ (wrap64 x).tmod 64)), .bool ((wrap64 (((wrap64 x).tmod 64).tdiv 16)).tmod 2 == 1), .int .i64 ((wrap64 (((wrap64 x).tmod 64).tdiv 4)).tmod 4), .bool ((wrap64 x).tmod 2 == 1)]) ?_ rfl ⟨rfl, (Below.refl _ w).alloc (Nat.le_refl _) _⟩
  simp only [results, Try.results160]
  go_simp

theorem six_f (n : Nat) (h : n < 256) : vitrineref05_Bits.f 10 (decide (32 ≤ (wrap64 n).tmod 64)) ((wrap64 (((wrap64 n).tmod 64).tdiv 16)).tmod 2 == 1) ((wrap64 (((wrap64 n).tmod 64).tdiv 4)).tmod 4) ((wrap64 n).tmod 2 == 1) = some (bits .and .u8 n 61, 0) := by
  have := (by decide +kernel : ∀ x : Fin 256, vitrineref05_Bits.f 10 (decide (32 ≤ (wrap64 x.val).tmod 64)) ((wrap64 (((wrap64 x.val).tmod 64).tdiv 16)).tmod 2 == 1) ((wrap64 (((wrap64 x.val).tmod 64).tdiv 4)).tmod 4) ((wrap64 x.val).tmod 2 == 1) = some (bits .and .u8 x.val 61, 0))
  exact this ⟨n, h⟩

set_option maxRecDepth 100000 in
set_option maxHeartbeats 1000000 in
theorem six_calls (w : World) (x : Int) (hx : 0 ≤ x ∧ x < 256) :
    Calls Try.prog 152 #[.int .u8 x] w fun e w' => e = .returned (.int .u8 (bits .and .u8 x 61)) ∧ Below w.heap.size w w' := by
  obtain ⟨n, rfl⟩ := Int.eq_ofNat_of_zero_le hx.1
  have hf := six_f n (by omega)
  generalize bits .and .u8 (n : Int) 61 = y at *
  generalize h1 : decide (32 ≤ (wrap64 n).tmod 64) = b1 at *
  generalize h2 : ((wrap64 (((wrap64 (n : Int)).tmod 64).tdiv 16)).tmod 2 == 1) = b2 at *
  generalize h3 : ((wrap64 (((wrap64 (n : Int)).tmod 64).tdiv 4)).tmod 4) = b3 at *
  generalize h4 : ((wrap64 (n : Int)).tmod 2 == 1) = b4 at *
  have hof : ∀ W, Calls Try.prog 160 #[.int .u8 n] W fun e w' => e = .returned (.agg #[.bool b1, .bool b2, .int .i64 b3, .bool b4]) ∧ Below W.heap.size W w' := fun W => by
    have := of_walk W n
    rw [h1, h2, h3, h4] at this
    exact this
  have HF := Aside0.mk hf
  clear hf h1 h2 h3 h4
  go_enter Try.func152, Try.ntmps152
  go_wp2_with (first
    | (go_at_call 160; (with_reducible refine (hof _).mono ?_); rintro e w1 ⟨rfl, hb1⟩)
    | (go_at_call 181; (with_reducible refine (vitrineref05_Bits.calls _ _ _ _ _ _ _ _ HF.out).mono ?_); rintro e w2 ⟨rfl, hb2⟩))
  go_ret
  exact ⟨rfl, ((Keep.of_below hb1 []).call hb2).below⟩

set_option maxRecDepth 100000 in
set_option maxHeartbeats 1000000 in
theorem fit_walk (w : World) (c : C) (hx : 0 ≤ c.fa ∧ c.fa < 256) (a : Bool) (ha : c.at_ = a) :
    Calls Try.prog 63 #[c.v] w fun e w' => e = .returned (fitc c).v ∧ Below w.heap.size w w' := by
  obtain ⟨ch, at_, fa, hi, co, se⟩ := c
  subst ha
  simp only [C.v, fitc]
  simp only at hx
  cases at_
  · go_enter Try.func63, Try.ntmps63
    go_wp2
    refine bodyPost_ret (v := .agg #[.int .u8 ch, .bool false, .int .u8 0, .int .u8 hi, .int .u8 co, .int .u8 se]) ?_ rfl ⟨rfl, ((Below.refl _ w).alloc (Nat.le_refl _) _).alloc (Array.size_push .. ▸ Nat.le_succ _) _⟩
    simp only [results, Try.results63]
    go_simp
  · go_enter Try.func63, Try.ntmps63
    have hs1 : ∀ o, (w.alloc o).heap.size = w.heap.size + 1 := fun o => Array.size_push ..
    go_wp2_with (go_at_call 152; (with_reducible refine (six_calls _ _ hx).mono ?_); rintro e w1 ⟨rfl, hb1⟩
                 have G1 := ((Blk.new w [.int .u8 ch, .bool true, .int .u8 fa, .int .u8 hi, .int .u8 co, .int .u8 se] 60).alloc _).call hb1
                 have G2 := (Blk.new2 w _ [.int .u8 0, .bool false, .int .u8 0, .int .u8 0, .int .u8 0, .int .u8 0] 60).call hb1
                 have g0 := G1.cell 0
                 have g1 := G1.cell 1
                 have g2 := G1.cell 2
                 have g3 := G1.cell 3
                 have g4 := G1.cell 4
                 have g5 := G1.cell 5
                 have gf := G1.frozen
                 have q0 := G2.cell 0
                 have q1 := G2.cell 1
                 have q2 := G2.cell 2
                 have q3 := G2.cell 3
                 have q4 := G2.cell 4
                 have q5 := G2.cell 5
                 have qf := G2.frozen
                 go_loud (simp at g0 g1 g2 g3 g4 g5 q0 q1 q2 q3 q4 q5))
    have k : Keep [] w w1 := (((Keep.refl [] w).alloc _).alloc _).call hb1
    refine bodyPost_ret (v := .agg #[.int .u8 0, .bool true, .int .u8 (bits .and .u8 fa 61), .int .u8 hi, .int .u8 co, .int .u8 se]) ?_ rfl ⟨rfl, Keep.below ((((((((k.setCell (p := ⟨w.heap.size, 0, none⟩) (.inr (Nat.le_refl _)) _).setCell (p := ⟨w.heap.size, 2, none⟩) (.inr (Nat.le_refl _)) _).setCell (p := ⟨w.heap.size + 1, 0, none⟩) (.inr (Nat.le_succ _)) _).setCell (p := ⟨w.heap.size + 1, 1, none⟩) (.inr (Nat.le_succ _)) _).setCell (p := ⟨w.heap.size + 1, 2, none⟩) (.inr (Nat.le_succ _)) _).setCell (p := ⟨w.heap.size + 1, 3, none⟩) (.inr (Nat.le_succ _)) _).setCell (p := ⟨w.heap.size + 1, 4, none⟩) (.inr (Nat.le_succ _)) _).setCell (p := ⟨w.heap.size + 1, 5, none⟩) (.inr (Nat.le_succ _)) _)⟩
    simp only [results, Try.results63]
    go_simp

theorem fit_calls (w : World) (c : C) (hx : 0 ≤ c.fa ∧ c.fa < 256) : Calls Try.prog 63 #[c.v] w fun e w' => e = .returned (fitc c).v ∧ Below w.heap.size w w' := fit_walk w c hx _ rfl

set_option maxHeartbeats 1000000 in
theorem rwrap_calls {w : World} {p b : Nat} {s : S} (h : RSp w p b s) (n : Int) :
    Calls Try.prog 65 #[.pointer (some ⟨p, 0, none⟩), .int .i64 n] w fun e w' => e = .returned (.int .i64 (wrp s.r s.c n)) ∧ Below w.heap.size w w' := by
  obtain ⟨cap, ex, h0, h1, h2⟩ := h
  have plt := h1.lt
  have f2 := h1.cell 2
  have f3 := h1.cell 3
  have ff := h1.frozen
  simp at f2 f3
  go_enter Try.func65, Try.ntmps65
  go_wp2_with (go_at_call 48; (with_reducible refine (r_wrap _ _ _ _).mono ?_); rintro e w1 ⟨rfl, hb1⟩)
  go_ret
  exact ⟨rfl, hb1⟩


end Go.Proofs.Ytangandfgbnomaa.V

namespace Go.Proofs.Ytangandfgbnomaa.V
open Go.RowKit
set_option linter.unusedVariables false
set_option linter.unusedSimpArgs false

set_option maxRecDepth 100000 in
set_option maxHeartbeats 1000000 in
theorem rat_calls {w : World} {p b : Nat} {s : S} (h : RSp w p b s) (ok : s.ok) (n : Int) :
    Calls Try.prog 83 #[.pointer (some ⟨p, 0, none⟩), .int .i64 n] w fun e w' => e = .returned (s.get n).v ∧ Below w.heap.size w w' := by
  have hp := h
  obtain ⟨cap, ex, B, m1, m2, hcap, k0, plt, blt⟩ := h.start
  obtain ⟨hix, hlt, hN, hN1⟩ := ok.ix n
  have hget : s.get n = s.l.getD (s.ix n) C.zero := rfl
  generalize hi : s.ix n = i at *
  have HG := Aside0.mk hget
  clear hget hi h
  have k1 := k0.new zb 60
  obtain ⟨B1, hB1⟩ : ∃ B1, B1 = (w.heap.size, zb, 60) :: B := ⟨_, rfl⟩
  rw [← hB1] at k1
  have m0 : (w.heap.size, zb, 60) ∈ B1 := by rw [hB1]; exact List.mem_cons_self ..
  replace m1 : (p, rb s b cap, 98) ∈ B1 := by rw [hB1]; exact List.mem_cons_of_mem _ m1
  replace m2 : (b, flat s.l ++ ex, 60) ∈ B1 := by rw [hB1]; exact List.mem_cons_of_mem _ m2
  clear hB1
  obtain ⟨_, _, r2, r3, r4, _⟩ := rules_r (R := []) (w0 := w) m1
  obtain ⟨x0, x1, x2, x3, x4, x5⟩ := rules_b (R := []) (w0 := w) m2 hlt
  obtain ⟨z0, z1, z2, z3, z4, z5⟩ := rules_z (R := []) (w0 := w) m0
  have zf := rules_f (R := []) (w0 := w) m0
  have i1 : (0 : Int) ≤ (i : Int) := by omega
  have i2 : (i : Int) < (s.l.length : Int) := by omega
  have K1 := Aside0.mk k1
  have hw : ∀ W, Kn [] w B1 W → Calls Try.prog 65 #[.pointer (some ⟨p, 0, none⟩), .int .i64 n] W fun e w' => e = .returned (.int .i64 (wrp s.r s.c n)) ∧ Below W.heap.size W w' := fun W hW => rwrap_calls (hp.keep hW.1 (by simp) (by simp)) n
  clear m0 m1 m2 k0 k1 hcap hp
  go_enter Try.func83, Try.ntmps83
  go_wp2
  have k1 := K1.out
  clear K1
  refine wp_quiet_tail (K := Kn [] w B1) 9 (by kernel_rfl) (by kernel_rfl) k1.drew ?_
  simp only [List.take_succ_cons, List.take_zero, List.drop_succ_cons, List.drop_zero]
  repeat (first
    | go_big_quiet_skip
    | (go_big_quiet_want; first
        | (go_big_quiet_op; first
            | go_big_quiet_on
            | (go_big_quiet_call ((intro hW; first
                | exact Calls.mono (hw _ hW) (fun e W' h => ⟨h.1, hW.call h.2⟩)))))
        | (apply quiet_of
           · (intro W hW
              go_simp
              with_reducible rfl)
           simp only [Act.put, List.setIfInBounds_toArray, List.set_cons_zero, List.set_cons_succ]
           go_big_quiet_on)))
  refine wpQuiet_nil ?_
  intro W hW
  go_wp2
  refine bodyPost_ret (v := s.l[i].v) ?_ rfl ⟨?_, ?_⟩
  · simp only [results, Try.results83]
    go_simp
  · rw [HG.out, List.getD_eq_getElem?_getD, List.getElem?_eq_getElem hlt]; rfl
  · exact (hW.1.set6 _ _ _ _ _ _).below

set_option maxRecDepth 100000 in
set_option maxHeartbeats 2000000 in
theorem rset_calls {w : World} {p b : Nat} {s : S} (h : RSp w p b s) (ok : s.ok) (n : Int) (c : C) (hc : 0 ≤ c.fa ∧ c.fa < 256) :
    Calls Try.prog 165 #[.pointer (some ⟨p, 0, none⟩), .int .i64 n, c.v] w fun e w' => e = .returned (.tuple #[]) ∧ RSp w' p b (s.set n c) ∧ Keep [b] w w' := by
  have hne := h.ne
  have hp := h
  obtain ⟨cap, ex, B, m1, m2, hcap, k0, plt, blt⟩ := h.start
  obtain ⟨hix, hlt, hN, hN1⟩ := ok.ix n
  have hset : s.set n c = { s with l := s.l.set (s.ix n) (fitc c) } := rfl
  generalize hi : s.ix n = i at *
  have HS := Aside0.mk hset
  clear hset hi h
  have kc : Kn [] w ((w.heap.size, c.vs, 60) :: B) (w.alloc (.cells #[.int .u8 c.ch, .bool c.at_, .int .u8 c.fa, .int .u8 c.hi, .int .u8 c.co, .int .u8 c.se] 60)) := k0.new c.vs 60
  obtain ⟨B1, hB1⟩ : ∃ B1, B1 = (w.heap.size, c.vs, 60) :: B := ⟨_, rfl⟩
  rw [← hB1] at kc
  have m0 : (w.heap.size, c.vs, 60) ∈ B1 := by rw [hB1]; exact List.mem_cons_self ..
  replace m1 : (p, rb s b cap, 98) ∈ B1 := by rw [hB1]; exact List.mem_cons_of_mem _ m1
  replace m2 : (b, flat s.l ++ ex, 60) ∈ B1 := by rw [hB1]; exact List.mem_cons_of_mem _ m2
  clear hB1
  obtain ⟨_, _, r2, r3, r4, _⟩ := rules_r (R := []) (w0 := w) m1
  have bf := rules_f (R := []) (w0 := w) m2
  obtain ⟨y0, y1, y2, y3, y4, y5⟩ := rules_c (R := []) (w0 := w) m0
  have i1 : (0 : Int) ≤ (i : Int) := by omega
  have i2 : (i : Int) < (s.l.length : Int) := by omega
  obtain ⟨x0, x1, x2, x3, x4, x5⟩ := rules_b (R := []) (w0 := w) m2 hlt
  have KC := Aside0.mk kc
  have hw : ∀ W, Kn [] w B1 W → Calls Try.prog 65 #[.pointer (some ⟨p, 0, none⟩), .int .i64 n] W fun e w' => e = .returned (.int .i64 (wrp s.r s.c n)) ∧ Below W.heap.size W w' := fun W hW => rwrap_calls (hp.keep hW.1 (by simp) (by simp)) n
  have hf : ∀ W, Calls Try.prog 63 #[.agg #[.int .u8 c.ch, .bool c.at_, .int .u8 c.fa, .int .u8 c.hi, .int .u8 c.co, .int .u8 c.se]] W fun e w' => e = .returned (.agg #[.int .u8 (fitc c).ch, .bool (fitc c).at_, .int .u8 (fitc c).fa, .int .u8 (fitc c).hi, .int .u8 (fitc c).co, .int .u8 (fitc c).se]) ∧ Below W.heap.size W w' := fun W => fit_calls W c hc
  have M := Aside0.mk (And.intro m1 m2)
  have HP := Aside0.mk hp
  clear m0 m1 m2 k0 kc hp
  unfold C.v
  go_enter Try.func165, Try.ntmps165
  go_wp2
  have k1 := KC.out
  clear KC
  refine wp_quiet_tail (K := Kn [] w B1) 10 (by kernel_rfl) (by kernel_rfl) k1.drew ?_
  simp only [List.take_succ_cons, List.take_zero, List.drop_succ_cons, List.drop_zero]
  repeat (first
    | go_big_quiet_skip
    | (go_big_quiet_want; first
        | (go_big_quiet_op; first
            | go_big_quiet_on
            | (go_big_quiet_call ((intro hW; first
                | exact Calls.mono (hw _ hW) (fun e W' h => ⟨h.1, hW.call h.2⟩)
                | exact Calls.mono (hf _) (fun e W' h => ⟨h.1, hW.call h.2⟩)))))
        | (apply quiet_of
           · (intro W hW
              go_simp
              with_reducible rfl)
           simp only [Act.put, List.setIfInBounds_toArray, List.set_cons_zero, List.set_cons_succ]
           go_big_quiet_on)))
  refine wpQuiet_nil ?_
  intro W hW
  go_wp2
  go_end0
  rw [HS.out]
  obtain ⟨cap', ex', h0, h1, h2⟩ := HP.out.keep hW.1 (by simp) (by simp)
  refine ⟨rfl, ⟨cap', ex', by rw [List.length_set]; exact h0, ?_, ?_⟩, ?_⟩
  · show Blk _ p [_, _, _, _, .slice _ (s.l.set i _).length cap', _] 98
    rw [List.length_set]
    exact h1.otherb6 hne _ _ _ _ _ _ _ _ _ _ _ _
  · exact h2.set6 i hlt (fitc c)
  · exact (hW.1.mono (R' := [b]) (by simp)).setb6 (.inl (List.mem_cons_self ..)) _ _ _ _ _ _ _ _ _ _ _ _

theorem RSp.alloc {w : World} {p b : Nat} {s : S} (h : RSp w p b s) (o : Obj) : RSp (w.alloc o) p b s := h.call ((Below.refl _ w).alloc (Nat.le_refl _) o)
theorem PSp.alloc {w : World} {p b : Nat} {s : S} (h : PSp w p b s) (o : Obj) : PSp (w.alloc o) p b s := h.call ((Below.refl _ w).alloc (Nat.le_refl _) o)
theorem Keep.zero {R : List Nat} {w w' : World} (h : Keep [] w w') : Keep R w w' := h.mono (by simp)

theorem and61_id (n : Nat) (h : n < 64) (h2 : (n : Int) % 4 / 2 = 0) : bits .and .u8 (n : Int) 61 = n := by
  have := (by decide +kernel : ∀ x : Fin 64, (x.val : Int) % 4 / 2 = 0 → bits .and .u8 (x.val : Int) 61 = x.val)
  exact this ⟨n, h⟩ h2
theorem fitc_id {c : C} (h : c.fit) : fitc c = c := by
  obtain ⟨ch, at_, fa, hi, co, se⟩ := c
  obtain ⟨h0, h1, h2, h3, h4, h5⟩ := h
  simp only at h0 h1 h2 h3 h4 h5
  cases at_
  · simp [fitc, h5]
  · obtain ⟨e1, e2⟩ := h4 rfl
    obtain ⟨n, rfl⟩ := Int.eq_ofNat_of_zero_le h2
    have := and61_id n (by omega) e2
    simp [fitc, this, e1]
theorem S.ok.fit_get {s : S} (h : s.ok) (n : Int) : (s.get n).fit := by
  obtain ⟨_, hlt, _, _⟩ := S.ok.ix h n
  unfold S.get
  rw [List.getD_eq_getElem?_getD, List.getElem?_eq_getElem hlt]
  exact h.2.2.2.2 _ (List.getElem_mem hlt)

theorem S.put_eq {s : S} (h : s.ok) (n x : Int) : s.put n x = if (s.get n).at_ = true then s else s.set n { s.get n with ch := x } := by
  unfold S.put
  by_cases ha : (s.get n).at_ = true
  · rw [if_pos ha, if_pos ha]
  · rw [if_neg ha, if_neg ha]
    have hf := fitc_id (S.ok.fit_get h n)
    unfold S.set
    generalize s.get n = c at *
    obtain ⟨ch, at_, fa, hi, co, se⟩ := c
    cases at_
    · simp [fitc] at hf ⊢; simp [hf]
    · exact absurd rfl ha

set_option maxRecDepth 100000 in
set_option maxHeartbeats 2000000 in
theorem rput_walk {w : World} {p b : Nat} {s : S} (hsp : RSp w p b s) (ok : s.ok) (n x : Int) (c : C) (hc : s.get n = c) (hr : 0 ≤ c.fa ∧ c.fa < 256) (a : Bool) (ha : c.at_ = a) :
    Calls Try.prog 180 #[.pointer (some ⟨p, 0, none⟩), .int .i64 n, .int .u8 x] w fun e w' => e = .returned (.tuple #[]) ∧ RSp w' p b (if a = true then s else s.set n ⟨x, a, c.fa, c.hi, c.co, c.se⟩) ∧ Keep [b] w w' := by
  have hat : ∀ W, RSp W p b s → Calls Try.prog 83 #[.pointer (some ⟨p, 0, none⟩), .int .i64 n] W fun e w' => e = .returned (.agg #[.int .u8 c.ch, .bool a, .int .u8 c.fa, .int .u8 c.hi, .int .u8 c.co, .int .u8 c.se]) ∧ Below W.heap.size W w' := fun W hW => by
    have := rat_calls hW ok n
    rw [hc] at this; unfold C.v at this; rw [ha] at this; exact this
  have hset : ∀ W, RSp W p b s → Calls Try.prog 165 #[.pointer (some ⟨p, 0, none⟩), .int .i64 n, .agg #[.int .u8 x, .bool a, .int .u8 c.fa, .int .u8 c.hi, .int .u8 c.co, .int .u8 c.se]] W fun e w' => e = .returned (.tuple #[]) ∧ RSp w' p b (s.set n ⟨x, a, c.fa, c.hi, c.co, c.se⟩) ∧ Keep [b] W w' := fun W hW => by
    have := rset_calls hW ok n { c with ch := x } hr
    unfold C.v at this; rw [ha] at this; exact this
  obtain ⟨cap, ex, hcap, h1, h2⟩ := id hsp
  have plt := h1.lt
  have blt := h2.lt
  clear hc hr ha
  cases a
  · go_enter Try.func180, Try.ntmps180
    go_wp2_with (first
      | (go_at_call 83; (with_reducible refine (hat _ hsp).mono ?_); rintro e w1 ⟨rfl, hb1⟩
         have hb1' := hb1.size)
      | (go_at_call 165; (with_reducible refine (hset _ ((hsp.call hb1).alloc _)).mono ?_); rintro e w2 ⟨rfl, hs, hk⟩))
    go_end0
    refine ⟨rfl, ?_, ?_⟩
    · exact hs
    · exact (((Keep.of_below hb1 [b]).alloc _).trans hk (fun x hx => .inl hx))
  · go_enter Try.func180, Try.ntmps180
    go_wp2_with (first
      | (go_at_call 83; (with_reducible refine (hat _ hsp).mono ?_); rintro e w1 ⟨rfl, hb1⟩
         have hb1' := hb1.size))
    go_end0
    refine ⟨rfl, ?_, ?_⟩
    · exact (hsp.call hb1).alloc _
    · exact (Keep.of_below hb1 [b]).alloc _

theorem rput_calls {w : World} {p b : Nat} {s : S} (h : RSp w p b s) (ok : s.ok) (n x : Int) :
    Calls Try.prog 180 #[.pointer (some ⟨p, 0, none⟩), .int .i64 n, .int .u8 x] w fun e w' => e = .returned (.tuple #[]) ∧ RSp w' p b (s.put n x) ∧ Keep [b] w w' := by
  have hb : 0 ≤ (s.get n).fa ∧ (s.get n).fa < 256 := by
    obtain ⟨_, _, h2, h3, _⟩ := S.ok.fit_get ok n
    exact ⟨h2, by omega⟩
  rw [S.put_eq ok]
  exact rput_walk h ok n x _ rfl hb _ rfl

end Go.Proofs.Ytangandfgbnomaa.V

namespace Go.Proofs.Ytangandfgbnomaa.V
open Go.RowKit
set_option linter.unusedVariables false
set_option linter.unusedSimpArgs false

set_option maxRecDepth 100000 in
set_option maxHeartbeats 2000000 in
theorem rclear_walk {w : World} {p : Nat} (m ar ac au R C' : Int) (al : Bool) (sv : Option Addr) (sl sc : Nat) (alt : Bool) (h : Blk w p [.int .i64 m, .bool al, .int .i64 ar, .int .i64 ac, .slice sv sl sc, .int .i64 au] 98)
    (N : Nat) (hm : vitrineref04_Model.f (if alt = true then m else 2) = some (R, C', true)) (hm2 : vitrineref04_Model.f 2 = some (24, 80, true)) (hv : vld R C' = true) (hN : cel R C' = (N : Int)) :
    Calls Try.prog 148 #[.pointer (some ⟨p, 0, none⟩), .bool alt] w fun e w' => e = .returned (.tuple #[]) ∧ ∃ b, w.heap.size ≤ b ∧ RSp w' p b { model := m, alt := alt, r := R, c := C', l := List.replicate N C.zero, cur := 0 } ∧ Keep [p] w w' := by
  have plt := h.lt
  obtain ⟨i0, hi, hz0, hz1, hz2⟩ := info_parts info60
  have hNb : (N : Int) ≤ 3564 ∧ 0 ≤ (N : Int) := by
    have hp := vld_pos hv
    have e : cel R C' = R * C' := by unfold cel; rw [if_pos hv]
    omega
  have f0 := h.cell 0
  have f1 := h.cell 1
  have f2 := h.cell 2
  have f3 := h.cell 3
  have f4 := h.cell 4
  have f5 := h.cell 5
  have ff := h.frozen
  simp at f0 f1 f2 f3 f4 f5
  have HM := Aside0.mk hm
  have HM2 := Aside0.mk hm2
  have HN := Aside0.mk hN
  clear hm hN hm2
  cases alt
  · have hm := HM.out
    simp only [if_true, Bool.false_eq_true, if_false] at hm
    rw [HM2.out] at hm; simp only [Option.some.injEq, Prod.mk.injEq] at hm; obtain ⟨rfl, rfl, _⟩ := hm
    have hm := HM2.out
    have HMM := Aside0.mk hm
    clear hm
    go_enter Try.func148, Try.ntmps148
    go_wp2_with (first
      | (go_at_call 29; (with_reducible refine (vitrineref04_Model.calls _ _ _ _ _ HM2.out).mono ?_); rintro e w1 ⟨rfl, hb1⟩
         go_loud (have H1 : Blk w1 p [.int .i64 m, .bool false, .int .i64 ar, .int .i64 ac, .slice sv sl sc, .int .i64 au] 98 := (h.set 1 _).call hb1)
         go_loud (have K1 : Keep [p] w w1 := ((Keep.refl [p] w).setCell (p := ⟨p, 1, none⟩) (.inl (List.mem_cons_self ..)) _).call hb1)
         have p1 := H1.lt
         have j0 := H1.cell 0
         have j1 := H1.cell 1
         have j2 := H1.cell 2
         have j3 := H1.cell 3
         have jf := H1.frozen
         go_loud (simp at j0 j1 j2 j3))
      | (go_at_call 47; (with_reducible refine (r_cells _ _ _).mono ?_); rintro e w3 ⟨rfl, hb3⟩
         go_loud (have H3 : Blk w3 p [.int .i64 m, .bool false, .int .i64 24, .int .i64 80, .slice sv sl sc, .int .i64 au] 98 := ((H1.set 2 _).set 3 _).call hb3)
         go_loud (have K3 : Keep [p] w w3 := ((K1.setCell (p := ⟨p, 2, none⟩) (.inl (List.mem_cons_self ..)) _).setCell (p := ⟨p, 3, none⟩) (.inl (List.mem_cons_self ..)) _).call hb3)
         have s3 := H3.lt)
      | (at_make; go_loud (refine wpList_make_full _ rfl _ _ 96 rfl w3.heap.size 60 i0 _ 6 Try.underlying96 hi hz0 hz1 .i64 .i64 _ _ N (by go_simp) (by go_simp) HN.out HN.out (by rw [hz2]; omega) (by unfold maxLen; omega) (Nat.le_refl _) ?_)
         intro w4 hown hgrow
         go_loud (have Kg : Keep [] w3 w4 := by obtain ⟨g1, g2, g3, g4, g5⟩ := hgrow; exact ⟨g1, g2, g3, g4, fun k hk _ => g5 k hk (by simp)⟩)
         go_loud (have K4 : Keep [p] w w4 := K3.trans (R' := []) Kg (by simp))
         go_loud (have B4 := blk_made hown)
         go_loud (have H4 : Blk w4 p [.int .i64 m, .bool false, .int .i64 24, .int .i64 80, .slice sv sl sc, .int .i64 au] 98 := H3.keep (R := []) Kg (by simp))
         have hlt4 := H4.lt
         have l4 := H4.cell 4
         have l5 := H4.cell 5
         have lf := H4.frozen
         go_loud (simp at l4 l5)))
    go_end0
    refine ⟨rfl, w3.heap.size, ?_, ?_, ?_⟩
    · exact K3.size
    · refine ⟨N, [], by simp, ?_, ?_⟩
      · have := (H4.set 4 (.slice (some ⟨w3.heap.size, 0, none⟩) N N)).set 5 (.int .i64 0)
        simp only [List.length_replicate]
        exact this
      · simp only [List.append_nil]
        exact (B4.other (p := ⟨p, 4, none⟩) (by have := s3; simp only; omega) _).other (p := ⟨p, 5, none⟩) (by have := s3; simp only; omega) _
    · exact (K4.setCell (p := ⟨p, 4, none⟩) (.inl (List.mem_cons_self ..)) _).setCell (p := ⟨p, 5, none⟩) (.inl (List.mem_cons_self ..)) _
  · have hm := HM.out
    simp only [if_true, Bool.false_eq_true, if_false] at hm
    have HMM := Aside0.mk hm
    clear hm
    go_enter Try.func148, Try.ntmps148
    go_wp2_with (go_at_call 29; (with_reducible refine (vitrineref04_Model.calls _ _ _ _ _ HM2.out).mono ?_); rintro e w1 ⟨rfl, hb1⟩
                 go_loud (have H1 : Blk w1 p [.int .i64 m, .bool true, .int .i64 ar, .int .i64 ac, .slice sv sl sc, .int .i64 au] 98 := (h.set 1 _).call hb1)
                 go_loud (have K1 : Keep [p] w w1 := ((Keep.refl [p] w).setCell (p := ⟨p, 1, none⟩) (.inl (List.mem_cons_self ..)) _).call hb1)
                 have p1 := H1.lt
                 have j0 := H1.cell 0
                 have j1 := H1.cell 1
                 have j2 := H1.cell 2
                 have j3 := H1.cell 3
                 have jf := H1.frozen
                 go_loud (simp at j0 j1 j2 j3))
    go_wp2_with (first
      | (go_at_call 29; (with_reducible refine (vitrineref04_Model.calls _ _ _ _ _ HMM.out).mono ?_); rintro e w2 ⟨rfl, hb2⟩
         go_loud (have H2 : Blk w2 p [.int .i64 m, .bool true, .int .i64 24, .int .i64 80, .slice sv sl sc, .int .i64 au] 98 := ((H1.set 2 _).set 3 _).call hb2)
         go_loud (have K2 : Keep [p] w w2 := ((K1.setCell (p := ⟨p, 2, none⟩) (.inl (List.mem_cons_self ..)) _).setCell (p := ⟨p, 3, none⟩) (.inl (List.mem_cons_self ..)) _).call hb2)
         have p2 := H2.lt
         have k0 := H2.cell 0
         have k1 := H2.cell 1
         have k2 := H2.cell 2
         have k3 := H2.cell 3
         have kf := H2.frozen
         go_loud (simp at k0 k1 k2 k3))
      | (go_at_call 47; (with_reducible refine (r_cells _ _ _).mono ?_); rintro e w3 ⟨rfl, hb3⟩
         go_loud (have H3 : Blk w3 p [.int .i64 m, .bool true, .int .i64 R, .int .i64 C', .slice sv sl sc, .int .i64 au] 98 := ((H2.set 2 _).set 3 _).call hb3)
         go_loud (have K3 : Keep [p] w w3 := ((K2.setCell (p := ⟨p, 2, none⟩) (.inl (List.mem_cons_self ..)) _).setCell (p := ⟨p, 3, none⟩) (.inl (List.mem_cons_self ..)) _).call hb3)
         have s3 := H3.lt)
      | (at_make; go_loud (refine wpList_make_full _ rfl _ _ 96 rfl w3.heap.size 60 i0 _ 6 Try.underlying96 hi hz0 hz1 .i64 .i64 _ _ N (by go_simp) (by go_simp) HN.out HN.out (by rw [hz2]; omega) (by unfold maxLen; omega) (Nat.le_refl _) ?_)
         intro w4 hown hgrow
         go_loud (have Kg : Keep [] w3 w4 := by obtain ⟨g1, g2, g3, g4, g5⟩ := hgrow; exact ⟨g1, g2, g3, g4, fun k hk _ => g5 k hk (by simp)⟩)
         go_loud (have K4 : Keep [p] w w4 := K3.trans (R' := []) Kg (by simp))
         go_loud (have B4 := blk_made hown)
         go_loud (have H4 : Blk w4 p [.int .i64 m, .bool true, .int .i64 R, .int .i64 C', .slice sv sl sc, .int .i64 au] 98 := H3.keep (R := []) Kg (by simp))
         have hlt4 := H4.lt
         have l4 := H4.cell 4
         have l5 := H4.cell 5
         have lf := H4.frozen
         go_loud (simp at l4 l5)))
    go_end0
    refine ⟨rfl, w3.heap.size, ?_, ?_, ?_⟩
    · exact K3.size
    · refine ⟨N, [], by simp, ?_, ?_⟩
      · have := (H4.set 4 (.slice (some ⟨w3.heap.size, 0, none⟩) N N)).set 5 (.int .i64 0)
        simp only [List.length_replicate]
        exact this
      · simp only [List.append_nil]
        exact (B4.other (p := ⟨p, 4, none⟩) (by have := s3; simp only; omega) _).other (p := ⟨p, 5, none⟩) (by have := s3; simp only; omega) _
    · exact (K4.setCell (p := ⟨p, 4, none⟩) (.inl (List.mem_cons_self ..)) _).setCell (p := ⟨p, 5, none⟩) (.inl (List.mem_cons_self ..)) _

theorem rclear_calls {w : World} {p b : Nat} {s : S} (h : RSp w p b s) (hm : 2 ≤ s.model ∧ s.model ≤ 5) (alt : Bool) :
    Calls Try.prog 148 #[.pointer (some ⟨p, 0, none⟩), .bool alt] w fun e w' => e = .returned (.tuple #[]) ∧ ∃ b, w.heap.size ≤ b ∧ RSp w' p b (S.clr s.model alt) ∧ Keep [p] w w' := by
  obtain ⟨cap, ex, h0, h1, h2⟩ := h
  have h' : 2 ≤ (if alt = true then s.model else 2) ∧ (if alt = true then s.model else 2) ≤ 5 := by split <;> omega
  obtain ⟨f1, f2, f3⟩ := model_f _ h'
  have hp := vld_pos f3
  have e : cel (msize (if alt = true then s.model else 2)).1 (msize (if alt = true then s.model else 2)).2 = (((msize (if alt = true then s.model else 2)).1 * (msize (if alt = true then s.model else 2)).2).toNat : Int) := by unfold cel; rw [if_pos f3]; omega
  exact rclear_walk _ _ _ _ _ _ _ _ _ _ alt h1 _ f2 (by decide +kernel) f3 e

set_option maxRecDepth 100000 in
set_option maxHeartbeats 2000000 in
theorem rnew_walk (w : World) (m R C' : Int) (hm : vitrineref04_Model.f m = some (R, C', true)) (hm2 : vitrineref04_Model.f 2 = some (24, 80, true)) :
    Calls Try.prog 55 #[.int .i64 m] w fun e w' => ∃ p b, e = .returned (.pointer (some ⟨p, 0, none⟩)) ∧ w.heap.size ≤ p ∧ w.heap.size ≤ b ∧ RSp w' p b { model := m, alt := false, r := 24, c := 80, l := List.replicate 1920 C.zero, cur := 0 } ∧ Keep [] w w' := by
  have HM := Aside0.mk hm
  have HM2 := Aside0.mk hm2
  clear hm hm2
  go_enter Try.func55, Try.ntmps55
  go_wp2_with (first
    | (go_at_call 29; (with_reducible refine (vitrineref04_Model.calls _ _ _ _ _ HM.out).mono ?_); rintro e w1 ⟨rfl, hb1⟩
       have hb1' := hb1.size)
    | (go_at_call 148; go_loud (with_reducible refine (rclear_walk m 0 0 0 24 80 false none 0 0 false (Blk.new2 _ _ [.int .i64 m, .bool false, .int .i64 0, .int .i64 0, .slice none 0 0, .int .i64 0] 98) 1920 (by simpa using HM2.out) HM2.out (by decide +kernel) (by decide +kernel)).mono ?_); rintro e w2 ⟨rfl, b, hbb, hs, hk⟩))
  go_ret
  refine ⟨_, b, rfl, ?_, ?_, hs, ?_⟩
  · omega
  · have : (((w1.alloc (.cells #[.int .i64 R, .int .i64 C'] 28)).alloc (.cells #[.int .i64 m, .bool false, .int .i64 0, .int .i64 0, .slice none 0 0, .int .i64 0] 98))).heap.size = w1.heap.size + 2 := by rw [World.size_alloc2]
    omega
  · exact (((Keep.refl [] w).call hb1).alloc _ |>.alloc _).trans hk (by intro x hx; right; simp at hx; omega)

set_option maxRecDepth 100000 in
set_option maxHeartbeats 2000000 in
theorem rnew_none (w : World) (m R C' : Int) (hm : vitrineref04_Model.f m = some (R, C', false)) :
    Calls Try.prog 55 #[.int .i64 m] w fun e w' => e = .returned (.pointer none) ∧ Below w.heap.size w w' := by
  have HM := Aside0.mk hm
  clear hm
  go_enter Try.func55, Try.ntmps55
  go_wp2_with (first
    | (go_at_call 29; (with_reducible refine (vitrineref04_Model.calls _ _ _ _ _ HM.out).mono ?_); rintro e w1 ⟨rfl, hb1⟩
       have hb1' := hb1.size))
  go_ret
  exact ⟨rfl, hb1.alloc (by omega) _⟩

end Go.Proofs.Ytangandfgbnomaa.V

namespace Go.Proofs.Ytangandfgbnomaa.V
open Go.RowKit
set_option linter.unusedVariables false
set_option linter.unusedSimpArgs false

/-- An act. -/
structure Ac where
  d : Int
  n : Int
  on : Bool
  code : Int
  c : C
  tx : List Int
def Ac.v (a : Ac) (ta : Option Addr) (cap : Nat) : Value := .agg #[.int .u8 a.d, .int .i64 a.n, .bool a.on, .int .u8 a.code, .int .u8 a.c.ch, .bool a.c.at_, .int .u8 a.c.fa, .int .u8 a.c.hi, .int .u8 a.c.co, .int .u8 a.c.se, .slice ta a.tx.length cap]
/-- A row of bytes in memory. -/
def TxRow (w : World) (ta : Option Addr) (l : List Int) : Prop := ∀ i : Int, 0 ≤ i → i < (l.length : Int) → ∃ x, ta = some x ∧ w.cell? (x.add i.toNat) = some (.int .u8 (l.getD i.toNat 0))
/-- What an act's numbers are. -/
def Ac.fine (a : Ac) : Prop := (0 ≤ a.d ∧ a.d < 256) ∧ (0 ≤ a.code ∧ a.code < 256) ∧ (0 ≤ a.c.ch ∧ a.c.ch < 256) ∧ (0 ≤ a.c.fa ∧ a.c.fa < 256) ∧ (∀ x ∈ a.tx, 0 ≤ x ∧ x < 256) ∧ a.tx.length ≤ 9223372036854775807

/-- A row of characters. -/
def S.txt (s : S) (n : Int) : Int → List Int → S
  | _, [] => s
  | i, x :: l => S.txt (if i < 200 then s.put (wrp s.r s.c n + i) x else s) n (i + 1) l
/-- An act on a space. -/
def S.act (s : S) (a : Ac) : S :=
  if a.d % 6 = 0 then S.clr s.model a.on
  else if a.d % 6 = 1 then { s with cur := wrp s.r s.c a.n }
  else if a.d % 6 = 2 then s.put a.n a.code
  else if a.d % 6 = 3 then s.set a.n ⟨0, true, a.code, 0, 0, 0⟩
  else if a.d % 6 = 4 then s.set a.n a.c
  else s.txt a.n 0 a.tx

theorem S.txt_snoc (s : S) (n : Int) (l : List Int) (x : Int) : ∀ (i : Int), s.txt n i (l ++ [x]) = (let t := s.txt n i l; if i + l.length < 200 then t.put (wrp t.r t.c n + (i + l.length)) x else t) := by
  induction l generalizing s with
  | nil => intro i; simp [S.txt]
  | cons y l ih =>
    intro i
    simp only [List.cons_append, S.txt, ih, List.length_cons]
    have e : i + 1 + (l.length : Int) = i + ((l.length + 1 : Nat) : Int) := by omega
    rw [e]

theorem S.put_size (s : S) (n x : Int) : (s.put n x).r = s.r ∧ (s.put n x).c = s.c ∧ (s.put n x).model = s.model ∧ (s.put n x).cur = s.cur ∧ (s.put n x).alt = s.alt := by unfold S.put; split <;> exact ⟨rfl, rfl, rfl, rfl, rfl⟩
theorem S.txt_size (n : Int) : ∀ (l : List Int) (s : S) (i : Int), (s.txt n i l).r = s.r ∧ (s.txt n i l).c = s.c ∧ (s.txt n i l).model = s.model ∧ (s.txt n i l).cur = s.cur ∧ (s.txt n i l).alt = s.alt := by
  intro l
  induction l with
  | nil => intro s i; exact ⟨rfl, rfl, rfl, rfl, rfl⟩
  | cons x l ih =>
    intro s i
    unfold S.txt
    obtain ⟨h1, h2, h3, h4, h5⟩ := ih (if i < 200 then s.put (wrp s.r s.c n + i) x else s) (i + 1)
    rw [h1, h2, h3, h4, h5]
    split
    · exact S.put_size _ _ _
    · exact ⟨rfl, rfl, rfl, rfl, rfl⟩

theorem fitc_fit {c : C} (h1 : 0 ≤ c.ch ∧ c.ch < 256) (h2 : 0 ≤ c.fa ∧ c.fa < 256) : (fitc c).fit := by
  obtain ⟨ch, at_, fa, hi, co, se⟩ := c
  simp only at h1 h2
  cases at_
  · simp only [fitc, Bool.false_eq_true, if_false]
    exact ⟨h1.1, h1.2, (by decide : (0 : Int) ≤ 0), (by decide : (0 : Int) < 64), fun h => by simp at h, fun _ => rfl⟩
  · simp only [fitc, if_true]
    obtain ⟨n, rfl⟩ := Int.eq_ofNat_of_zero_le h2.1
    have := (by decide +kernel : ∀ x : Fin 256, 0 ≤ bits .and .u8 (x.val : Int) 61 ∧ bits .and .u8 (x.val : Int) 61 < 64 ∧ bits .and .u8 (x.val : Int) 61 % 4 / 2 = 0)
    obtain ⟨a1, a2, a3⟩ := this ⟨n, by omega⟩
    exact ⟨(by decide : (0 : Int) ≤ 0), (by decide : (0 : Int) < 256), a1, a2, fun _ => ⟨rfl, a3⟩, fun h => by simp at h⟩

theorem S.ok.set {s : S} (h : s.ok) (n : Int) (c : C) (h1 : 0 ≤ c.ch ∧ c.ch < 256) (h2 : 0 ≤ c.fa ∧ c.fa < 256) : (s.set n c).ok := by
  obtain ⟨a, b, c1, d, e⟩ := h
  refine ⟨a, by show ((s.l.set _ _).length : Int) = _; rw [List.length_set]; exact b, c1, d, ?_⟩
  intro x hx
  rcases List.mem_or_eq_of_mem_set hx with hx | rfl
  · exact e x hx
  · exact fitc_fit h1 h2

theorem S.ok.put {s : S} (h : s.ok) (n x : Int) (h1 : 0 ≤ x ∧ x < 256) : (s.put n x).ok := by
  rw [S.put_eq h]
  split
  · exact h
  · obtain ⟨_, _, f2, f3, _⟩ := S.ok.fit_get h n
    exact S.ok.set h n _ h1 ⟨f2, by simp only; omega⟩

theorem S.ok.txt (n : Int) : ∀ (l : List Int) (s : S) (i : Int), s.ok → (∀ x ∈ l, 0 ≤ x ∧ x < 256) → (s.txt n i l).ok := by
  intro l
  induction l with
  | nil => intro s i h _; exact h
  | cons x l ih =>
    intro s i h hx
    unfold S.txt
    refine ih _ _ ?_ (fun y hy => hx y (List.mem_cons_of_mem _ hy))
    split
    · exact h.put _ _ (hx x (List.mem_cons_self ..))
    · exact h

theorem S.ok.place {s : S} (h : s.ok) (n : Int) : S.ok { s with cur := wrp s.r s.c n } := by
  obtain ⟨a, b, c1, d, e⟩ := h
  have := in_place s.r s.c n a
  have e' : wrp s.r s.c n = n % (s.r * s.c) := by unfold wrp; rw [if_pos a]
  exact ⟨a, b, by show 0 ≤ wrp s.r s.c n; rw [e']; exact this.1, by show wrp s.r s.c n < s.r * s.c; rw [e']; exact this.2.1, e⟩

theorem S.ok.act {s : S} (h : s.ok) (hm : 2 ≤ s.model ∧ s.model ≤ 5) (a : Ac) (hf : a.fine) : (s.act a).ok := by
  obtain ⟨f1, f2, f3, f4, f5, _⟩ := hf
  unfold S.act
  split
  · exact S.clr_ok _ _ hm
  split
  · exact h.place _
  split
  · exact h.put _ _ f2
  split
  · exact h.set _ _ (by show (0 : Int) ≤ 0 ∧ (0 : Int) < 256; decide) f2
  split
  · exact h.set _ _ f3 f4
  · exact S.ok.txt _ _ _ _ h f5

theorem S.act_model (s : S) (a : Ac) : (s.act a).model = s.model := by
  unfold S.act
  split
  · rfl
  split
  · rfl
  split
  · exact (S.put_size _ _ _).2.2.1
  split
  · rfl
  split
  · rfl
  · exact (S.txt_size _ _ _ _).2.2.1

end Go.Proofs.Ytangandfgbnomaa.V

namespace Go.Proofs.Ytangandfgbnomaa.V
open Go.RowKit
set_option linter.unusedVariables false
set_option linter.unusedSimpArgs false


theorem after_rsp {w w' : World} {p b : Nat} {s : S} (h : RSp w p b s) (k : Keep [] w w') : RSp w' p b s := h.keep k (by simp) (by simp)

set_option maxRecDepth 100000 in
set_option maxHeartbeats 2000000 in
theorem rdo0 {w : World} {p b : Nat} {s : S} (h : RSp w p b s) (ok : s.ok) (hm : 2 ≤ s.model ∧ s.model ≤ 5) (a : Ac) (hf : a.fine) (ta : Option Addr) (cap : Nat) (hd : a.d % 6 = 0) :
    Calls Try.prog 149 #[.pointer (some ⟨p, 0, none⟩), a.v ta cap] w fun e w' => e = .returned (.tuple #[]) ∧ ∃ b', (b' = b ∨ w.heap.size ≤ b') ∧ RSp w' p b' (s.act a) ∧ Keep [p, b] w w' := by
  have hs : s.act a = S.clr s.model a.on := by
    unfold S.act
    rw [hd]
    rfl
  have hdt : a.d.tmod 6 = 0 := by rw [Int.tmod_eq_emod_of_nonneg hf.1.1]; exact hd
  have HS := Aside0.mk hs
  clear hs hd
  obtain ⟨fd, fcode, fch, ffa, ftx, ftl⟩ := id hf
  obtain ⟨cap', ex', hcap, h1, h2⟩ := id h
  have plt := h1.lt
  have blt := h2.lt
  unfold Ac.v
  go_enter Try.func149, Try.ntmps149
  go_wp2_with (go_at_call 148; go_loud (with_reducible refine (rclear_calls (h.alloc _) hm _).mono ?_); rintro e w1 ⟨rfl, b', hbb, hs, hk⟩)
  go_end0
  rw [HS.out]
  have hsz : ∀ o, (w.alloc o).heap.size = w.heap.size + 1 := fun o => Array.size_push ..
  exact ⟨rfl, b', .inr (by rw [hsz] at hbb; omega), hs, ((Keep.refl [p, b] w).alloc _).trans hk (fun x hx => .inl (by simp at hx; simp [hx]))⟩

set_option maxRecDepth 100000 in
set_option maxHeartbeats 2000000 in
theorem rdo2 {w : World} {p b : Nat} {s : S} (h : RSp w p b s) (ok : s.ok) (hm : 2 ≤ s.model ∧ s.model ≤ 5) (a : Ac) (hf : a.fine) (ta : Option Addr) (cap : Nat) (hd : a.d % 6 = 2) :
    Calls Try.prog 149 #[.pointer (some ⟨p, 0, none⟩), a.v ta cap] w fun e w' => e = .returned (.tuple #[]) ∧ ∃ b', (b' = b ∨ w.heap.size ≤ b') ∧ RSp w' p b' (s.act a) ∧ Keep [p, b] w w' := by
  have hs : s.act a = s.put a.n a.code := by
    unfold S.act
    rw [hd]
    rfl
  have hdt : a.d.tmod 6 = 2 := by rw [Int.tmod_eq_emod_of_nonneg hf.1.1]; exact hd
  have HS := Aside0.mk hs
  clear hs hd
  obtain ⟨fd, fcode, fch, ffa, ftx, ftl⟩ := id hf
  obtain ⟨cap', ex', hcap, h1, h2⟩ := id h
  have plt := h1.lt
  have blt := h2.lt
  unfold Ac.v
  go_enter Try.func149, Try.ntmps149
  go_wp2_with (go_at_call 180; go_loud (with_reducible refine (rput_calls (h.alloc _) ok _ _).mono ?_); rintro e w1 ⟨rfl, hs, hk⟩)
  go_end0
  rw [HS.out]
  exact ⟨rfl, b, .inl rfl, hs, ((Keep.refl [p, b] w).alloc _).trans hk (fun x hx => .inl (List.mem_cons_of_mem _ hx))⟩

set_option maxRecDepth 100000 in
set_option maxHeartbeats 2000000 in
theorem rdo3 {w : World} {p b : Nat} {s : S} (h : RSp w p b s) (ok : s.ok) (hm : 2 ≤ s.model ∧ s.model ≤ 5) (a : Ac) (hf : a.fine) (ta : Option Addr) (cap : Nat) (hd : a.d % 6 = 3) :
    Calls Try.prog 149 #[.pointer (some ⟨p, 0, none⟩), a.v ta cap] w fun e w' => e = .returned (.tuple #[]) ∧ ∃ b', (b' = b ∨ w.heap.size ≤ b') ∧ RSp w' p b' (s.act a) ∧ Keep [p, b] w w' := by
  have hs : s.act a = s.set a.n ⟨0, true, a.code, 0, 0, 0⟩ := by
    unfold S.act
    rw [hd]
    rfl
  have hdt : a.d.tmod 6 = 3 := by rw [Int.tmod_eq_emod_of_nonneg hf.1.1]; exact hd
  have HS := Aside0.mk hs
  clear hs hd
  obtain ⟨fd, fcode, fch, ffa, ftx, ftl⟩ := id hf
  obtain ⟨cap', ex', hcap, h1, h2⟩ := id h
  have plt := h1.lt
  have blt := h2.lt
  unfold Ac.v
  go_enter Try.func149, Try.ntmps149
  go_wp2_with (go_at_call 165; go_loud (with_reducible refine (rset_calls (h.alloc _) ok _ ⟨0, true, a.code, 0, 0, 0⟩ fcode).mono ?_); rintro e w1 ⟨rfl, hs, hk⟩)
  go_end0
  rw [HS.out]
  exact ⟨rfl, b, .inl rfl, hs, ((Keep.refl [p, b] w).alloc _).trans hk (fun x hx => .inl (List.mem_cons_of_mem _ hx))⟩

set_option maxRecDepth 100000 in
set_option maxHeartbeats 2000000 in
theorem rdo4 {w : World} {p b : Nat} {s : S} (h : RSp w p b s) (ok : s.ok) (hm : 2 ≤ s.model ∧ s.model ≤ 5) (a : Ac) (hf : a.fine) (ta : Option Addr) (cap : Nat) (hd : a.d % 6 = 4) :
    Calls Try.prog 149 #[.pointer (some ⟨p, 0, none⟩), a.v ta cap] w fun e w' => e = .returned (.tuple #[]) ∧ ∃ b', (b' = b ∨ w.heap.size ≤ b') ∧ RSp w' p b' (s.act a) ∧ Keep [p, b] w w' := by
  have hs : s.act a = s.set a.n a.c := by
    unfold S.act
    rw [hd]
    rfl
  have hdt : a.d.tmod 6 = 4 := by rw [Int.tmod_eq_emod_of_nonneg hf.1.1]; exact hd
  have HS := Aside0.mk hs
  clear hs hd
  obtain ⟨fd, fcode, fch, ffa, ftx, ftl⟩ := id hf
  obtain ⟨cap', ex', hcap, h1, h2⟩ := id h
  have plt := h1.lt
  have blt := h2.lt
  unfold Ac.v
  go_enter Try.func149, Try.ntmps149
  go_wp2_with (go_at_call 165; go_loud (with_reducible refine (rset_calls (h.alloc _) ok _ a.c ffa).mono ?_); rintro e w1 ⟨rfl, hs, hk⟩)
  go_end0
  rw [HS.out]
  exact ⟨rfl, b, .inl rfl, hs, ((Keep.refl [p, b] w).alloc _).trans hk (fun x hx => .inl (List.mem_cons_of_mem _ hx))⟩

set_option maxRecDepth 100000 in
set_option maxHeartbeats 2000000 in
theorem rdo1 {w : World} {p b : Nat} {s : S} (h : RSp w p b s) (ok : s.ok) (hm : 2 ≤ s.model ∧ s.model ≤ 5) (a : Ac) (hf : a.fine) (ta : Option Addr) (cap : Nat) (hd : a.d % 6 = 1) :
    Calls Try.prog 149 #[.pointer (some ⟨p, 0, none⟩), a.v ta cap] w fun e w' => e = .returned (.tuple #[]) ∧ ∃ b', (b' = b ∨ w.heap.size ≤ b') ∧ RSp w' p b' (s.act a) ∧ Keep [p, b] w w' := by
  have hs : s.act a = { s with cur := wrp s.r s.c a.n } := by
    unfold S.act
    rw [hd]
    rfl
  have hdt : a.d.tmod 6 = 1 := by rw [Int.tmod_eq_emod_of_nonneg hf.1.1]; exact hd
  have HS := Aside0.mk hs
  clear hs hd
  obtain ⟨fd, fcode, fch, ffa, ftx, ftl⟩ := id hf
  obtain ⟨cap', ex', hcap, h1, h2⟩ := id h
  have plt := h1.lt
  have blt := h2.lt
  unfold Ac.v
  go_enter Try.func149, Try.ntmps149
  go_wp2_with (go_at_call 65; go_loud (with_reducible refine (rwrap_calls (h.alloc _) _).mono ?_); rintro e w1 ⟨rfl, hb1⟩; have g1 := (h1.alloc _).call hb1; have gl := g1.lt; have g5 := g1.cell 5; have gf := g1.frozen; go_loud (simp at g5))
  go_end0
  rw [HS.out]
  refine ⟨rfl, b, .inl rfl, ⟨cap', ex', hcap, ?_, ?_⟩, ?_⟩
  · exact g1.set 5 _
  · exact ((h2.alloc _).call hb1).other (p := ⟨p, 5, none⟩) (Ne.symm h.ne) _
  · exact (((Keep.refl [p, b] w).alloc _).call hb1).setCell (p := ⟨p, 5, none⟩) (.inl (List.mem_cons_self ..)) _


end Go.Proofs.Ytangandfgbnomaa.V

namespace Go.Proofs.Ytangandfgbnomaa.V
open Go.RowKit
set_option linter.unusedVariables false
set_option linter.unusedSimpArgs false


theorem S.txt_take (s : S) (n : Int) (l : List Int) (i : Nat) (hi : i < l.length) : s.txt n 0 (l.take (i + 1)) = if (i : Int) < 200 then (s.txt n 0 (l.take i)).put (wrp s.r s.c n + i) (l.getD i 0) else s.txt n 0 (l.take i) := by
  have e : l.take (i + 1) = l.take i ++ [l.getD i 0] := by
    rw [List.take_add_one, List.getElem?_eq_getElem hi]
    simp [List.getD_eq_getElem?_getD, List.getElem?_eq_getElem hi]
  rw [e, S.txt_snoc]
  obtain ⟨h1, h2, _⟩ := S.txt_size n (l.take i) s 0
  have e2 : ((l.take i).length : Int) = (i : Int) := by rw [List.length_take]; omega
  simp only [h1, h2, e2, Int.zero_add]

set_option maxRecDepth 100000 in
set_option maxHeartbeats 2000000 in
theorem rdo5 {w : World} {p b : Nat} {s : S} (h : RSp w p b s) (ok : s.ok) (hm : 2 ≤ s.model ∧ s.model ≤ 5) (a : Ac) (hf : a.fine) (ta : Option Addr) (cap : Nat) (hd : a.d % 6 = 5) (T : ∀ W, Keep [p, b] w W → TxRow W ta a.tx) :
    Calls Try.prog 149 #[.pointer (some ⟨p, 0, none⟩), a.v ta cap] w fun e w' => e = .returned (.tuple #[]) ∧ ∃ b', (b' = b ∨ w.heap.size ≤ b') ∧ RSp w' p b' (s.act a) ∧ Keep [p, b] w w' := by
  have hs : s.act a = s.txt a.n 0 a.tx := by
    unfold S.act
    rw [hd]
    rfl
  have hdt : a.d.tmod 6 = 5 := by rw [Int.tmod_eq_emod_of_nonneg hf.1.1]; exact hd
  have HS := Aside0.mk hs
  clear hs hd
  obtain ⟨fd, fcode, fch, ffa, ftx, ftl⟩ := id hf
  have hne := h.ne
  have plt : p < w.heap.size := by obtain ⟨_, _, _, h1, _⟩ := id h; exact h1.lt
  have blt : b < w.heap.size := by obtain ⟨_, _, _, _, h2⟩ := id h; exact h2.lt
  have hsize : ∀ o, (w.alloc o).heap.size = w.heap.size + 1 := fun o => Array.size_push ..
  have hwr := in_place s.r s.c a.n ok.1
  have hlen : s.r * s.c ≤ 3564 := by have := vld_pos ok.1; omega
  have hwe : wrp s.r s.c a.n = a.n % (s.r * s.c) := by unfold wrp; rw [if_pos ok.1]
  have hw0 : 0 ≤ wrp s.r s.c a.n ∧ wrp s.r s.c a.n < 3564 := by omega
  clear hwr hlen hwe
  have HX := Aside0.mk hsize
  clear hsize
  unfold Ac.v
  go_enter Try.func149, Try.ntmps149
  go_wp2
  go_loopg [12] a.tx.length (fun kq v12 w' => ∃ i : Nat, v12 = .int .i64 i ∧ Aside0 (kq = a.tx.length - i ∧ i ≤ a.tx.length) ∧ Aside0 (RSp w' p b (s.txt a.n 0 (a.tx.take i))) ∧ Aside0 (Keep [b] w w') ∧
    Aside0 (Blk w' w.heap.size [.int .u8 a.d, .int .i64 a.n, .bool a.on, .int .u8 a.code, .int .u8 a.c.ch, .bool a.c.at_, .int .u8 a.c.fa, .int .u8 a.c.hi, .int .u8 a.c.co, .int .u8 a.c.se, .slice ta a.tx.length cap] 67))
  case atStart =>
    refine ⟨0, rfl, ⟨rfl, Nat.zero_le _⟩, ⟨?_⟩, ⟨(Keep.refl [b] w).alloc _⟩, ⟨Blk.new w _ 67⟩⟩
    simp only [List.take_zero, S.txt]
    exact h.alloc _
  case round =>
    obtain ⟨i, rfl, HI, HR, HK, HB⟩ := hrel
    obtain ⟨hi1, hi2⟩ := HI.out
    have hb := HB.out
    have blt2 := hb.lt
    have b1 := hb.cell 1
    have bf := hb.frozen
    have b10 := hb.cell 10
    simp at b1 b10
    by_cases hc : (i : Int) < (a.tx.length : Int)
    · have hcb : decide ((i : Int) < (a.tx.length : Int)) = true := decide_eq_true hc
      obtain ⟨x, rfl, hx⟩ := T _ (HK.out.mono (fun y hy => .inl (List.mem_cons_of_mem _ hy))) i (by omega) hc
      have hi0 : (0 : Int) ≤ (i : Int) := by omega
      simp only [Int.toNat_natCast] at hx
      have hstep := Aside0.mk (S.txt_take s a.n a.tx i (by omega))
      have hbyte : 0 ≤ a.tx.getD i 0 ∧ a.tx.getD i 0 < 256 := by
        rw [List.getD_eq_getElem?_getD, List.getElem?_eq_getElem (by omega)]; exact ftx _ (List.getElem_mem (by omega))
      have htok := Aside0.mk (S.ok.txt a.n (a.tx.take i) s 0 ok (fun y hy => ftx y (List.mem_of_mem_take hy)))
      have htsz := S.txt_size a.n (a.tx.take i) s 0
      generalize s.txt a.n 0 (List.take i a.tx) = t at *
      obtain ⟨ht1, ht2, _⟩ := htsz
      generalize a.tx.getD i 0 = y at *
      have hr := HR.out
      by_cases h2 : (i : Int) < 200
      · have h2b : decide ((i : Int) < 200) = true := decide_eq_true h2
        have hwr := rwrap_calls hr a.n
        rw [ht1, ht2] at hwr
        have we : wrap64 (wrp s.r s.c a.n + (i : Int)) = wrp s.r s.c a.n + (i : Int) := by unfold wrap64; omega
        have we1 : wrap64 ((i : Int) + 1) = ((i + 1 : Nat) : Int) := by unfold wrap64; omega
        have WE1 := Aside0.mk we1
        clear we1
        have hne1 : w.heap.size ≠ b := by omega
        go_wp2_with (first
          | (go_at_call 65; go_loud (with_reducible refine hwr.mono ?_); rintro e w1 ⟨rfl, hb1⟩
             have hr1 := hr.call hb1
             have hB1 := hb.call hb1)
          | (go_at_call 180; go_loud (with_reducible refine (rput_calls hr1 htok.out _ _).mono ?_); rintro e w2 ⟨rfl, hr2, hk2⟩))
        go_roundg (a.tx.length - (i + 1))
        case measure => omega
        case rel =>
          refine ⟨i + 1, by first | rfl | (rw [WE1.out]), ⟨rfl, by omega⟩, ⟨?_⟩, ⟨?_⟩, ⟨?_⟩⟩
          · rw [hstep.out, if_pos h2]; exact hr2
          · exact (HK.out.call hb1).trans hk2 (fun y hy => .inl hy)
          · exact hB1.keep hk2 (by simp; omega)
      · have h2b : decide ((i : Int) < 200) = false := decide_eq_false h2
        have we1 : wrap64 ((i : Int) + 1) = ((i + 1 : Nat) : Int) := by unfold wrap64; omega
        have WE1 := Aside0.mk we1
        clear we1
        go_wp2
        go_roundg (a.tx.length - (i + 1))
        case measure => omega
        case rel =>
          refine ⟨i + 1, by first | rfl | (rw [WE1.out]), ⟨rfl, by omega⟩, ⟨?_⟩, HK, HB⟩
          rw [hstep.out, if_neg (by omega)]; exact hr
    · have hcb : decide ((i : Int) < (a.tx.length : Int)) = false := decide_eq_false hc
      have hie : i = a.tx.length := by omega
      go_wp2
      go_end0
      rw [HS.out]
      have hr := HR.out
      rw [hie, List.take_length] at hr
      exact ⟨rfl, .inl ⟨hr, HK.out.mono (fun y hy => .inl (List.mem_cons_of_mem _ hy))⟩⟩

theorem rdo {w : World} {p b : Nat} {s : S} (h : RSp w p b s) (ok : s.ok) (hm : 2 ≤ s.model ∧ s.model ≤ 5) (a : Ac) (hf : a.fine) (ta : Option Addr) (cap : Nat) (T : ∀ W, Keep [p, b] w W → TxRow W ta a.tx) :
    Calls Try.prog 149 #[.pointer (some ⟨p, 0, none⟩), a.v ta cap] w fun e w' => e = .returned (.tuple #[]) ∧ ∃ b', (b' = b ∨ w.heap.size ≤ b') ∧ RSp w' p b' (s.act a) ∧ Keep [p, b] w w' := by
  obtain ⟨fd, _⟩ := id hf
  have : a.d % 6 = 0 ∨ a.d % 6 = 1 ∨ a.d % 6 = 2 ∨ a.d % 6 = 3 ∨ a.d % 6 = 4 ∨ a.d % 6 = 5 := by omega
  rcases this with e | e | e | e | e | e
  · exact rdo0 h ok hm a hf ta cap e
  · exact rdo1 h ok hm a hf ta cap e
  · exact rdo2 h ok hm a hf ta cap e
  · exact rdo3 h ok hm a hf ta cap e
  · exact rdo4 h ok hm a hf ta cap e
  · exact rdo5 h ok hm a hf ta cap e T

end Go.Proofs.Ytangandfgbnomaa.V

namespace Go.Proofs.Ytangandfgbnomaa.V
open Go.RowKit
set_option linter.unusedVariables false
set_option linter.unusedSimpArgs false

/-- The program's space and the reference's are alike, apart in memory. -/
def Two (w : World) (p b q d : Nat) (s : S) : Prop := PSp w p b s ∧ RSp w q d s ∧ p ≠ q ∧ p ≠ d ∧ b ≠ q ∧ b ≠ d

theorem Two.keep {R : List Nat} {w w' : World} {p b q d : Nat} {s : S} (h : Two w p b q d s) (k : Keep R w w') (h1 : p ∉ R) (h2 : b ∉ R) (h3 : q ∉ R) (h4 : d ∉ R) : Two w' p b q d s :=
  ⟨h.1.keep k h1 h2, h.2.1.keep k h3 h4, h.2.2⟩
theorem Two.call {w w' : World} {p b q d : Nat} {s : S} (h : Two w p b q d s) (k : Below w.heap.size w w') : Two w' p b q d s := h.keep (Keep.of_below k []) (by simp) (by simp) (by simp) (by simp)

/-- What an act leaves. -/
def DoPost (w : World) (p b q d : Nat) (s : S) (a : Ac) (e : Ending) (w' : World) : Prop :=
  e = .returned (.tuple #[]) ∧ ∃ b' d', (b' = b ∨ w.heap.size ≤ b') ∧ (d' = d ∨ w.heap.size ≤ d') ∧ Two w' p b' q d' (s.act a) ∧ Keep [p, b, q, d] w w'

/-- The second half: the reference's act, behind the program's. -/
theorem do_post {w w1 w2 : World} {p b q d b' d' : Nat} {s : S} {a : Ac} (h : Two w p b q d s) (hb : b' = b ∨ w.heap.size ≤ b') (h1 : PSp w1 p b' (s.act a)) (k1 : Keep [p, b] w w1) (hd : d' = d ∨ w1.heap.size ≤ d') (h2 : RSp w2 q d' (s.act a)) (k2 : Keep [q, d] w1 w2) :
    DoPost w p b q d s a (.returned (.tuple #[])) w2 := by
  obtain ⟨hp, hr, n1, n2, n3, n4⟩ := h
  have qlt : q < w.heap.size := by obtain ⟨_, _, _, x, _⟩ := id hr; exact x.lt
  have dlt : d < w.heap.size := by obtain ⟨_, _, _, _, x⟩ := id hr; exact x.lt
  have plt : p < w1.heap.size := by obtain ⟨_, _, _, x, _⟩ := id h1; exact x.lt
  have blt : b' < w1.heap.size := by obtain ⟨_, _, _, _, x⟩ := id h1; exact x.lt
  have hs := k1.size
  refine ⟨rfl, b', d', hb, by omega, ⟨h1.keep k2 (by simp; omega) (by simp; omega), h2, n1, by omega, by omega, by omega⟩, ?_⟩
  refine (k1.mono (R' := [p, b, q, d]) ?_).trans k2 ?_
  · intro x hx; left; simp at hx ⊢; omega
  · intro x hx; left; simp at hx ⊢; omega

end Go.Proofs.Ytangandfgbnomaa.V

namespace Go.Proofs.Ytangandfgbnomaa.V
open Go.RowKit
set_option linter.unusedVariables false
set_option linter.unusedSimpArgs false


theorem new_calls (w : World) (m : Int) (hm : 2 ≤ m ∧ m ≤ 5) :
    Calls Try.prog 54 #[.int .i64 m] w fun e w' => ∃ p b, e = .returned (.tuple #[.pointer (some ⟨p, 0, none⟩), .int .i64 0]) ∧ w.heap.size ≤ p ∧ w.heap.size ≤ b ∧ PSp w' p b (S.clr m false) ∧ Keep [] w w' :=
  new_walk w m (msize m).1 (msize m).2 0 (model_f m hm).1 (model_f 2 (by decide)).1
theorem rnew_calls (w : World) (m : Int) (hm : 2 ≤ m ∧ m ≤ 5) :
    Calls Try.prog 55 #[.int .i64 m] w fun e w' => ∃ p b, e = .returned (.pointer (some ⟨p, 0, none⟩)) ∧ w.heap.size ≤ p ∧ w.heap.size ≤ b ∧ RSp w' p b (S.clr m false) ∧ Keep [] w w' :=
  rnew_walk w m (msize m).1 (msize m).2 (model_f m hm).2.1 (model_f 2 (by decide)).2.1

theorem field24_0 : ∀ (a b : Int) (w : World), Sem.run Try.prog (Instr.field 24 (.agg #[.int .i64 a, .int .i64 b]) 0) w = .ok (.int .i64 a) w := fun _ _ _ => by kernel_rfl
theorem field24_1 : ∀ (a b : Int) (w : World), Sem.run Try.prog (Instr.field 24 (.agg #[.int .i64 a, .int .i64 b]) 1) w = .ok (.int .i64 b) w := fun _ _ _ => by kernel_rfl

end Go.Proofs.Ytangandfgbnomaa.V
