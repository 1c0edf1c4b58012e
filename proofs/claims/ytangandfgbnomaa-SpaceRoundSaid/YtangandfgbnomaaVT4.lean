/- Walks of Space.Put; Space.Set for every cell. -/
import Derived.Test.YtangandfgbnomaaVT3
namespace Go.Proofs.Ytangandfgbnomaa.V
open Go.RowKit Go.Proofs.YtangandfgbnomaaW.PrintWords Go.Proofs.YtangandfgbnomaaW.PrintLast Go.Proofs.YtangandfgbnomaaW.PrintMore
set_option linter.unusedVariables false
set_option linter.unusedSimpArgs false

theorem set_calls {w : World} {p b : Nat} {s : S} (h : PSp w p b s) (ok : s.ok) (n : Int) (c : C) :
    Calls Try.prog 59 #[.pointer (some ⟨p, 0, none⟩), .int .i64 n, c.v] w fun e w' => e = .returned (.tuple #[]) ∧ PSp w' p b (s.set n c) ∧ Keep [p, b] w w' := by
  obtain ⟨ch, at_, fa, hi, co, se⟩ := c
  cases at_ with
  | true => exact set_attr h ok n ch fa hi co se _ rfl
  | false => exact set_char h ok n ch fa hi co se _ rfl

set_option maxRecDepth 100000 in
set_option maxHeartbeats 1000000 in
theorem put_walk {w : World} {p b : Nat} {s : S} (h : PSp w p b s) (ok : s.ok) (n x : Int) (a : Bool) (ha : (s.get n).at_ = a) :
    Calls Try.prog 62 #[.pointer (some ⟨p, 0, none⟩), .int .i64 n, .int .u8 x] w fun e w' => e = .returned (.tuple #[]) ∧ PSp w' p b (s.put n x) ∧ Keep [b] w w' := by
  have hne := h.ne
  have hs : s.put n x = if a = true then s else { s with l := s.l.set (s.ix n) { s.get n with ch := x } } := by unfold S.put; rw [ha]
  have hp := h
  obtain ⟨cap, ex, B, m1, m2, hcap, k0, plt, blt⟩ := h.start
  obtain ⟨hix, hlt, hN, hN1⟩ := ok.ix n
  have hget : s.get n = s.l.getD (s.ix n) C.zero := rfl
  generalize hi : s.ix n = i at *
  have eg : s.l.getD i C.zero = s.l[i] := by rw [List.getD_eq_getElem?_getD, List.getElem?_eq_getElem hlt]; rfl
  rw [hget, eg] at ha hs
  clear hget hi h eg
  obtain ⟨_, _, r2, r3, r4, _, _⟩ := rules_p (R := []) (w0 := w) m1
  obtain ⟨x0, x1, x2, x3, x4, x5⟩ := rules_b (R := []) (w0 := w) m2 hlt
  have bf := rules_f (R := []) (w0 := w) m2
  have i1 : (0 : Int) ≤ (i : Int) := by omega
  have i2 : (i : Int) < (s.l.length : Int) := by omega
  have HS := Aside0.mk hs
  clear hs
  go_enter Try.func62, Try.ntmps62
  go_wp2
  refine wp_quiet_all (K := Kn [] w B) (by kernel_rfl) (by kernel_rfl) k0.drew ?_
  repeat (first
    | go_big_quiet_skip
    | (go_big_quiet_want; first
        | (go_big_quiet_op; first
            | go_big_quiet_on
            | (go_big_quiet_call ((intro hW; first
                | exact Calls.mono (c_wrap _ _ _ _) (fun e W' h => ⟨h.1, hW.call h.2⟩)))))
        | (apply quiet_of
           · (intro W hW
              go_simp
              with_reducible rfl)
           simp only [Act.put, List.setIfInBounds_toArray, List.set_cons_zero, List.set_cons_succ]
           go_big_quiet_on)))
  refine wpQuiet_nil ?_
  intro W hW
  clear k0
  cases a with
  | true =>
    go_wp2
    go_end0
    refine ⟨rfl, ?_, ?_⟩
    · rw [HS.out]; simp only [if_true]; exact hp.keep hW.1 (by simp) (by simp)
    · exact hW.1.mono (by simp)
  | false =>
    go_wp2
    go_end0
    refine ⟨rfl, ?_, ?_⟩
    · rw [HS.out]; simp only [Bool.false_eq_true, if_false]
      obtain ⟨cap', ex', h0, h1, h2⟩ := hp.keep hW.1 (by simp) (by simp)
      have e : cnt (s.l.set i { s.l[i] with ch := x }) = cnt s.l := by rw [cnt_set _ _ _ hlt]; simp
      refine ⟨cap', ex', by rw [List.length_set]; exact h0, ?_, ?_⟩
      · show Blk _ p [_, _, _, _, .slice _ (s.l.set i _).length cap', _, .int .i64 (cnt (s.l.set i _))] 155
        rw [List.length_set, e]
        exact h1.other (p := ⟨b, i * 6, none⟩) hne _
      · have := h2.set (i * 6) (.int .u8 x)
        have hl := flat_length s.l
        rw [List.set_append_left _ _ (by omega), Nat.mul_comm i 6, flat_set_ch s.l i hlt x] at this
        rw [Nat.mul_comm i 6]; exact this
    · exact (hW.1.mono (by simp)).setCell (p := ⟨b, i * 6, none⟩) (.inl (List.mem_cons_self ..)) _

theorem put_calls {w : World} {p b : Nat} {s : S} (h : PSp w p b s) (ok : s.ok) (n x : Int) :
    Calls Try.prog 62 #[.pointer (some ⟨p, 0, none⟩), .int .i64 n, .int .u8 x] w fun e w' => e = .returned (.tuple #[]) ∧ PSp w' p b (s.put n x) ∧ Keep [b] w w' := put_walk h ok n x _ rfl

end Go.Proofs.Ytangandfgbnomaa.V
