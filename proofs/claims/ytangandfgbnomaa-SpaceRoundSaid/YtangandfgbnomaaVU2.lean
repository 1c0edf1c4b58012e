/- Walks of the reference's At, Set and Put. -/
import Derived.Test.YtangandfgbnomaaVU1
namespace Go.Proofs.Ytangandfgbnomaa.V
open Go.RowKit Go.Proofs.YtangandfgbnomaaW.PrintWords Go.Proofs.YtangandfgbnomaaW.PrintLast Go.Proofs.YtangandfgbnomaaW.PrintMore
set_option linter.unusedVariables false
set_option linter.unusedSimpArgs false

set_option maxRecDepth 100000 in
set_option maxHeartbeats 1000000 in
theorem rat_calls {w : World} {p b : Nat} {s : S} (h : RSp w p b s) (ok : s.ok) (n : Int) :
    Calls Try.prog 83 #[.pointer (some ⟨p, 0, none⟩), .int .i64 n] w fun e w' => e = .returned (s.get n).v ∧ Below w.heap.size w w' := by
  have hp := h
  obtain ⟨cap, ex, B, m1, m2, hcap, k0, plt, blt⟩ := h.start
  obtain ⟨hix, hlt, hN, hN1⟩ := ok.ix n
  have hget : s.get n = s.l.getD (s.ix n) C.zero := rfl
  generalize hi : s.ix n = i at *
  have HG := Aside0.mk hget
  clear hget hi h
  have k1 := k0.new zb 60
  obtain ⟨B1, hB1⟩ : ∃ B1, B1 = (w.heap.size, zb, 60) :: B := ⟨_, rfl⟩
  rw [← hB1] at k1
  have m0 : (w.heap.size, zb, 60) ∈ B1 := by rw [hB1]; exact List.mem_cons_self ..
  replace m1 : (p, rb s b cap, 98) ∈ B1 := by rw [hB1]; exact List.mem_cons_of_mem _ m1
  replace m2 : (b, flat s.l ++ ex, 60) ∈ B1 := by rw [hB1]; exact List.mem_cons_of_mem _ m2
  clear hB1
  obtain ⟨_, _, r2, r3, r4, _⟩ := rules_r (R := []) (w0 := w) m1
  obtain ⟨x0, x1, x2, x3, x4, x5⟩ := rules_b (R := []) (w0 := w) m2 hlt
  obtain ⟨z0, z1, z2, z3, z4, z5⟩ := rules_z (R := []) (w0 := w) m0
  have zf := rules_f (R := []) (w0 := w) m0
  have i1 : (0 : Int) ≤ (i : Int) := by omega
  have i2 : (i : Int) < (s.l.length : Int) := by omega
  have K1 := Aside0.mk k1
  have hw : ∀ W, Kn [] w B1 W → Calls Try.prog 65 #[.pointer (some ⟨p, 0, none⟩), .int .i64 n] W fun e w' => e = .returned (.int .i64 (wrp s.r s.c n)) ∧ Below W.heap.size W w' := fun W hW => rwrap_calls (hp.keep hW.1 (by simp) (by simp)) n
  clear m0 m1 m2 k0 k1 hcap hp
  go_enter Try.func83, Try.ntmps83
  go_wp2
  have k1 := K1.out
  clear K1
  refine wp_quiet_tail (K := Kn [] w B1) 9 (by kernel_rfl) (by kernel_rfl) k1.drew ?_
  simp only [List.take_succ_cons, List.take_zero, List.drop_succ_cons, List.drop_zero]
  repeat (first
    | go_big_quiet_skip
    | (go_big_quiet_want; first
        | (go_big_quiet_op; first
            | go_big_quiet_on
            | (go_big_quiet_call ((intro hW; first
                | exact Calls.mono (hw _ hW) (fun e W' h => ⟨h.1, hW.call h.2⟩)))))
        | (apply quiet_of
           · (intro W hW
              go_simp
              with_reducible rfl)
           simp only [Act.put, List.setIfInBounds_toArray, List.set_cons_zero, List.set_cons_succ]
           go_big_quiet_on)))
  refine wpQuiet_nil ?_
  intro W hW
  go_wp2
  refine bodyPost_ret (v := s.l[i].v) ?_ rfl ⟨?_, ?_⟩
  · simp only [results, Try.results83]
    go_simp
  · rw [HG.out, List.getD_eq_getElem?_getD, List.getElem?_eq_getElem hlt]; rfl
  · exact (hW.1.set6 _ _ _ _ _ _).below

set_option maxRecDepth 100000 in
set_option maxHeartbeats 2000000 in
theorem rset_calls {w : World} {p b : Nat} {s : S} (h : RSp w p b s) (ok : s.ok) (n : Int) (c : C) (hc : 0 ≤ c.fa ∧ c.fa < 256) :
    Calls Try.prog 165 #[.pointer (some ⟨p, 0, none⟩), .int .i64 n, c.v] w fun e w' => e = .returned (.tuple #[]) ∧ RSp w' p b (s.set n c) ∧ Keep [b] w w' := by
  have hne := h.ne
  have hp := h
  obtain ⟨cap, ex, B, m1, m2, hcap, k0, plt, blt⟩ := h.start
  obtain ⟨hix, hlt, hN, hN1⟩ := ok.ix n
  have hset : s.set n c = { s with l := s.l.set (s.ix n) (fitc c) } := rfl
  generalize hi : s.ix n = i at *
  have HS := Aside0.mk hset
  clear hset hi h
  have kc : Kn [] w ((w.heap.size, c.vs, 60) :: B) (w.alloc (.cells #[.int .u8 c.ch, .bool c.at_, .int .u8 c.fa, .int .u8 c.hi, .int .u8 c.co, .int .u8 c.se] 60)) := k0.new c.vs 60
  obtain ⟨B1, hB1⟩ : ∃ B1, B1 = (w.heap.size, c.vs, 60) :: B := ⟨_, rfl⟩
  rw [← hB1] at kc
  have m0 : (w.heap.size, c.vs, 60) ∈ B1 := by rw [hB1]; exact List.mem_cons_self ..
  replace m1 : (p, rb s b cap, 98) ∈ B1 := by rw [hB1]; exact List.mem_cons_of_mem _ m1
  replace m2 : (b, flat s.l ++ ex, 60) ∈ B1 := by rw [hB1]; exact List.mem_cons_of_mem _ m2
  clear hB1
  obtain ⟨_, _, r2, r3, r4, _⟩ := rules_r (R := []) (w0 := w) m1
  have bf := rules_f (R := []) (w0 := w) m2
  obtain ⟨y0, y1, y2, y3, y4, y5⟩ := rules_c (R := []) (w0 := w) m0
  have i1 : (0 : Int) ≤ (i : Int) := by omega
  have i2 : (i : Int) < (s.l.length : Int) := by omega
  obtain ⟨x0, x1, x2, x3, x4, x5⟩ := rules_b (R := []) (w0 := w) m2 hlt
  have KC := Aside0.mk kc
  have hw : ∀ W, Kn [] w B1 W → Calls Try.prog 65 #[.pointer (some ⟨p, 0, none⟩), .int .i64 n] W fun e w' => e = .returned (.int .i64 (wrp s.r s.c n)) ∧ Below W.heap.size W w' := fun W hW => rwrap_calls (hp.keep hW.1 (by simp) (by simp)) n
  have hf : ∀ W, Calls Try.prog 63 #[.agg #[.int .u8 c.ch, .bool c.at_, .int .u8 c.fa, .int .u8 c.hi, .int .u8 c.co, .int .u8 c.se]] W fun e w' => e = .returned (.agg #[.int .u8 (fitc c).ch, .bool (fitc c).at_, .int .u8 (fitc c).fa, .int .u8 (fitc c).hi, .int .u8 (fitc c).co, .int .u8 (fitc c).se]) ∧ Below W.heap.size W w' := fun W => fit_calls W c hc
  have M := Aside0.mk (And.intro m1 m2)
  have HP := Aside0.mk hp
  clear m0 m1 m2 k0 kc hp
  unfold C.v
  go_enter Try.func165, Try.ntmps165
  go_wp2
  have k1 := KC.out
  clear KC
  refine wp_quiet_tail (K := Kn [] w B1) 10 (by kernel_rfl) (by kernel_rfl) k1.drew ?_
  simp only [List.take_succ_cons, List.take_zero, List.drop_succ_cons, List.drop_zero]
  repeat (first
    | go_big_quiet_skip
    | (go_big_quiet_want; first
        | (go_big_quiet_op; first
            | go_big_quiet_on
            | (go_big_quiet_call ((intro hW; first
                | exact Calls.mono (hw _ hW) (fun e W' h => ⟨h.1, hW.call h.2⟩)
                | exact Calls.mono (hf _) (fun e W' h => ⟨h.1, hW.call h.2⟩)))))
        | (apply quiet_of
           · (intro W hW
              go_simp
              with_reducible rfl)
           simp only [Act.put, List.setIfInBounds_toArray, List.set_cons_zero, List.set_cons_succ]
           go_big_quiet_on)))
  refine wpQuiet_nil ?_
  intro W hW
  go_wp2
  go_end0
  rw [HS.out]
  obtain ⟨cap', ex', h0, h1, h2⟩ := HP.out.keep hW.1 (by simp) (by simp)
  refine ⟨rfl, ⟨cap', ex', by rw [List.length_set]; exact h0, ?_, ?_⟩, ?_⟩
  · show Blk _ p [_, _, _, _, .slice _ (s.l.set i _).length cap', _] 98
    rw [List.length_set]
    exact h1.otherb6 hne _ _ _ _ _ _ _ _ _ _ _ _
  · exact h2.set6 i hlt (fitc c)
  · exact (hW.1.mono (R' := [b]) (by simp)).setb6 (.inl (List.mem_cons_self ..)) _ _ _ _ _ _ _ _ _ _ _ _

theorem RSp.alloc {w : World} {p b : Nat} {s : S} (h : RSp w p b s) (o : Obj) : RSp (w.alloc o) p b s := h.call ((Below.refl _ w).alloc (Nat.le_refl _) o)
theorem PSp.alloc {w : World} {p b : Nat} {s : S} (h : PSp w p b s) (o : Obj) : PSp (w.alloc o) p b s := h.call ((Below.refl _ w).alloc (Nat.le_refl _) o)
theorem Keep.zero {R : List Nat} {w w' : World} (h : Keep [] w w') : Keep R w w' := h.mono (by simp)

theorem and61_id (n : Nat) (h : n < 64) (h2 : (n : Int) % 4 / 2 = 0) : bits .and .u8 (n : Int) 61 = n := by
  have := (by decide +kernel : ∀ x : Fin 64, (x.val : Int) % 4 / 2 = 0 → bits .and .u8 (x.val : Int) 61 = x.val)
  exact this ⟨n, h⟩ h2
theorem fitc_id {c : C} (h : c.fit) : fitc c = c := by
  obtain ⟨ch, at_, fa, hi, co, se⟩ := c
  obtain ⟨h0, h1, h2, h3, h4, h5⟩ := h
  simp only at h0 h1 h2 h3 h4 h5
  cases at_
  · simp [fitc, h5]
  · obtain ⟨e1, e2⟩ := h4 rfl
    obtain ⟨n, rfl⟩ := Int.eq_ofNat_of_zero_le h2
    have := and61_id n (by omega) e2
    simp [fitc, this, e1]
theorem S.ok.fit_get {s : S} (h : s.ok) (n : Int) : (s.get n).fit := by
  obtain ⟨_, hlt, _, _⟩ := S.ok.ix h n
  unfold S.get
  rw [List.getD_eq_getElem?_getD, List.getElem?_eq_getElem hlt]
  exact h.2.2.2.2 _ (List.getElem_mem hlt)

theorem S.put_eq {s : S} (h : s.ok) (n x : Int) : s.put n x = if (s.get n).at_ = true then s else s.set n { s.get n with ch := x } := by
  unfold S.put
  by_cases ha : (s.get n).at_ = true
  · rw [if_pos ha, if_pos ha]
  · rw [if_neg ha, if_neg ha]
    have hf := fitc_id (S.ok.fit_get h n)
    unfold S.set
    generalize s.get n = c at *
    obtain ⟨ch, at_, fa, hi, co, se⟩ := c
    cases at_
    · simp [fitc] at hf ⊢; simp [hf]
    · exact absurd rfl ha

set_option maxRecDepth 100000 in
set_option maxHeartbeats 2000000 in
theorem rput_walk {w : World} {p b : Nat} {s : S} (hsp : RSp w p b s) (ok : s.ok) (n x : Int) (c : C) (hc : s.get n = c) (hr : 0 ≤ c.fa ∧ c.fa < 256) (a : Bool) (ha : c.at_ = a) :
    Calls Try.prog 180 #[.pointer (some ⟨p, 0, none⟩), .int .i64 n, .int .u8 x] w fun e w' => e = .returned (.tuple #[]) ∧ RSp w' p b (if a = true then s else s.set n ⟨x, a, c.fa, c.hi, c.co, c.se⟩) ∧ Keep [b] w w' := by
  have hat : ∀ W, RSp W p b s → Calls Try.prog 83 #[.pointer (some ⟨p, 0, none⟩), .int .i64 n] W fun e w' => e = .returned (.agg #[.int .u8 c.ch, .bool a, .int .u8 c.fa, .int .u8 c.hi, .int .u8 c.co, .int .u8 c.se]) ∧ Below W.heap.size W w' := fun W hW => by
    have := rat_calls hW ok n
    rw [hc] at this; unfold C.v at this; rw [ha] at this; exact this
  have hset : ∀ W, RSp W p b s → Calls Try.prog 165 #[.pointer (some ⟨p, 0, none⟩), .int .i64 n, .agg #[.int .u8 x, .bool a, .int .u8 c.fa, .int .u8 c.hi, .int .u8 c.co, .int .u8 c.se]] W fun e w' => e = .returned (.tuple #[]) ∧ RSp w' p b (s.set n ⟨x, a, c.fa, c.hi, c.co, c.se⟩) ∧ Keep [b] W w' := fun W hW => by
    have := rset_calls hW ok n { c with ch := x } hr
    unfold C.v at this; rw [ha] at this; exact this
  obtain ⟨cap, ex, hcap, h1, h2⟩ := id hsp
  have plt := h1.lt
  have blt := h2.lt
  clear hc hr ha
  cases a
  · go_enter Try.func180, Try.ntmps180
    go_wp2_with (first
      | (go_at_call 83; (with_reducible refine (hat _ hsp).mono ?_); rintro e w1 ⟨rfl, hb1⟩
         have hb1' := hb1.size)
      | (go_at_call 165; (with_reducible refine (hset _ ((hsp.call hb1).alloc _)).mono ?_); rintro e w2 ⟨rfl, hs, hk⟩))
    go_end0
    refine ⟨rfl, ?_, ?_⟩
    · exact hs
    · exact (((Keep.of_below hb1 [b]).alloc _).trans hk (fun x hx => .inl hx))
  · go_enter Try.func180, Try.ntmps180
    go_wp2_with (first
      | (go_at_call 83; (with_reducible refine (hat _ hsp).mono ?_); rintro e w1 ⟨rfl, hb1⟩
         have hb1' := hb1.size))
    go_end0
    refine ⟨rfl, ?_, ?_⟩
    · exact (hsp.call hb1).alloc _
    · exact (Keep.of_below hb1 [b]).alloc _

theorem rput_calls {w : World} {p b : Nat} {s : S} (h : RSp w p b s) (ok : s.ok) (n x : Int) :
    Calls Try.prog 180 #[.pointer (some ⟨p, 0, none⟩), .int .i64 n, .int .u8 x] w fun e w' => e = .returned (.tuple #[]) ∧ RSp w' p b (s.put n x) ∧ Keep [b] w w' := by
  have hb : 0 ≤ (s.get n).fa ∧ (s.get n).fa < 256 := by
    obtain ⟨_, _, h2, h3, _⟩ := S.ok.fit_get ok n
    exact ⟨h2, by omega⟩
  rw [S.put_eq ok]
  exact rput_walk h ok n x _ rfl hb _ rfl

end Go.Proofs.Ytangandfgbnomaa.V
