/- Walks of the reference's Clear and New. -/
import Derived.Test.YtangandfgbnomaaVU2
namespace Go.Proofs.Ytangandfgbnomaa.V
open Go.RowKit Go.Proofs.YtangandfgbnomaaW.PrintWords Go.Proofs.YtangandfgbnomaaW.PrintLast Go.Proofs.YtangandfgbnomaaW.PrintMore
set_option linter.unusedVariables false
set_option linter.unusedSimpArgs false

set_option maxRecDepth 100000 in
set_option maxHeartbeats 2000000 in
theorem rclear_walk {w : World} {p : Nat} (m ar ac au R C' : Int) (al : Bool) (sv : Option Addr) (sl sc : Nat) (alt : Bool) (h : Blk w p [.int .i64 m, .bool al, .int .i64 ar, .int .i64 ac, .slice sv sl sc, .int .i64 au] 98)
    (N : Nat) (hm : vitrineref04_Model.f (if alt = true then m else 2) = some (R, C', true)) (hm2 : vitrineref04_Model.f 2 = some (24, 80, true)) (hv : vld R C' = true) (hN : cel R C' = (N : Int)) :
    Calls Try.prog 148 #[.pointer (some ⟨p, 0, none⟩), .bool alt] w fun e w' => e = .returned (.tuple #[]) ∧ ∃ b, w.heap.size ≤ b ∧ RSp w' p b { model := m, alt := alt, r := R, c := C', l := List.replicate N C.zero, cur := 0 } ∧ Keep [p] w w' := by
  have plt := h.lt
  obtain ⟨i0, hi, hz0, hz1, hz2⟩ := info_parts info60
  have hNb : (N : Int) ≤ 3564 ∧ 0 ≤ (N : Int) := by
    have hp := vld_pos hv
    have e : cel R C' = R * C' := by unfold cel; rw [if_pos hv]
    omega
  have f0 := h.cell 0
  have f1 := h.cell 1
  have f2 := h.cell 2
  have f3 := h.cell 3
  have f4 := h.cell 4
  have f5 := h.cell 5
  have ff := h.frozen
  simp at f0 f1 f2 f3 f4 f5
  have HM := Aside0.mk hm
  have HM2 := Aside0.mk hm2
  have HN := Aside0.mk hN
  clear hm hN hm2
  cases alt
  · have hm := HM.out
    simp only [if_true, Bool.false_eq_true, if_false] at hm
    rw [HM2.out] at hm; simp only [Option.some.injEq, Prod.mk.injEq] at hm; obtain ⟨rfl, rfl, _⟩ := hm
    have hm := HM2.out
    have HMM := Aside0.mk hm
    clear hm
    go_enter Try.func148, Try.ntmps148
    go_wp2_with (first
      | (go_at_call 29; (with_reducible refine (vitrineref04_Model.calls _ _ _ _ _ HM2.out).mono ?_); rintro e w1 ⟨rfl, hb1⟩
         go_loud (have H1 : Blk w1 p [.int .i64 m, .bool false, .int .i64 ar, .int .i64 ac, .slice sv sl sc, .int .i64 au] 98 := (h.set 1 _).call hb1)
         go_loud (have K1 : Keep [p] w w1 := ((Keep.refl [p] w).setCell (p := ⟨p, 1, none⟩) (.inl (List.mem_cons_self ..)) _).call hb1)
         have p1 := H1.lt
         have j0 := H1.cell 0
         have j1 := H1.cell 1
         have j2 := H1.cell 2
         have j3 := H1.cell 3
         have jf := H1.frozen
         go_loud (simp at j0 j1 j2 j3))
      | (go_at_call 47; (with_reducible refine (r_cells _ _ _).mono ?_); rintro e w3 ⟨rfl, hb3⟩
         go_loud (have H3 : Blk w3 p [.int .i64 m, .bool false, .int .i64 24, .int .i64 80, .slice sv sl sc, .int .i64 au] 98 := ((H1.set 2 _).set 3 _).call hb3)
         go_loud (have K3 : Keep [p] w w3 := ((K1.setCell (p := ⟨p, 2, none⟩) (.inl (List.mem_cons_self ..)) _).setCell (p := ⟨p, 3, none⟩) (.inl (List.mem_cons_self ..)) _).call hb3)
         have s3 := H3.lt)
      | (at_make; go_loud (refine wpList_make_full _ rfl _ _ 96 rfl w3.heap.size 60 i0 _ 6 Try.underlying96 hi hz0 hz1 .i64 .i64 _ _ N (by go_simp) (by go_simp) HN.out HN.out (by rw [hz2]; omega) (by unfold maxLen; omega) (Nat.le_refl _) ?_)
         intro w4 hown hgrow
         go_loud (have Kg : Keep [] w3 w4 := by obtain ⟨g1, g2, g3, g4, g5⟩ := hgrow; exact ⟨g1, g2, g3, g4, fun k hk _ => g5 k hk (by simp)⟩)
         go_loud (have K4 : Keep [p] w w4 := K3.trans (R' := []) Kg (by simp))
         go_loud (have B4 := blk_made hown)
         go_loud (have H4 : Blk w4 p [.int .i64 m, .bool false, .int .i64 24, .int .i64 80, .slice sv sl sc, .int .i64 au] 98 := H3.keep (R := []) Kg (by simp))
         have hlt4 := H4.lt
         have l4 := H4.cell 4
         have l5 := H4.cell 5
         have lf := H4.frozen
         go_loud (simp at l4 l5)))
    go_end0
    refine ⟨rfl, w3.heap.size, ?_, ?_, ?_⟩
    · exact K3.size
    · refine ⟨N, [], by simp, ?_, ?_⟩
      · have := (H4.set 4 (.slice (some ⟨w3.heap.size, 0, none⟩) N N)).set 5 (.int .i64 0)
        simp only [List.length_replicate]
        exact this
      · simp only [List.append_nil]
        exact (B4.other (p := ⟨p, 4, none⟩) (by have := s3; simp only; omega) _).other (p := ⟨p, 5, none⟩) (by have := s3; simp only; omega) _
    · exact (K4.setCell (p := ⟨p, 4, none⟩) (.inl (List.mem_cons_self ..)) _).setCell (p := ⟨p, 5, none⟩) (.inl (List.mem_cons_self ..)) _
  · have hm := HM.out
    simp only [if_true, Bool.false_eq_true, if_false] at hm
    have HMM := Aside0.mk hm
    clear hm
    go_enter Try.func148, Try.ntmps148
    go_wp2_with (go_at_call 29; (with_reducible refine (vitrineref04_Model.calls _ _ _ _ _ HM2.out).mono ?_); rintro e w1 ⟨rfl, hb1⟩
                 go_loud (have H1 : Blk w1 p [.int .i64 m, .bool true, .int .i64 ar, .int .i64 ac, .slice sv sl sc, .int .i64 au] 98 := (h.set 1 _).call hb1)
                 go_loud (have K1 : Keep [p] w w1 := ((Keep.refl [p] w).setCell (p := ⟨p, 1, none⟩) (.inl (List.mem_cons_self ..)) _).call hb1)
                 have p1 := H1.lt
                 have j0 := H1.cell 0
                 have j1 := H1.cell 1
                 have j2 := H1.cell 2
                 have j3 := H1.cell 3
                 have jf := H1.frozen
                 go_loud (simp at j0 j1 j2 j3))
    go_wp2_with (first
      | (go_at_call 29; (with_reducible refine (vitrineref04_Model.calls _ _ _ _ _ HMM.out).mono ?_); rintro e w2 ⟨rfl, hb2⟩
         go_loud (have H2 : Blk w2 p [.int .i64 m, .bool true, .int .i64 24, .int .i64 80, .slice sv sl sc, .int .i64 au] 98 := ((H1.set 2 _).set 3 _).call hb2)
         go_loud (have K2 : Keep [p] w w2 := ((K1.setCell (p := ⟨p, 2, none⟩) (.inl (List.mem_cons_self ..)) _).setCell (p := ⟨p, 3, none⟩) (.inl (List.mem_cons_self ..)) _).call hb2)
         have p2 := H2.lt
         have k0 := H2.cell 0
         have k1 := H2.cell 1
         have k2 := H2.cell 2
         have k3 := H2.cell 3
         have kf := H2.frozen
         go_loud (simp at k0 k1 k2 k3))
      | (go_at_call 47; (with_reducible refine (r_cells _ _ _).mono ?_); rintro e w3 ⟨rfl, hb3⟩
         go_loud (have H3 : Blk w3 p [.int .i64 m, .bool true, .int .i64 R, .int .i64 C', .slice sv sl sc, .int .i64 au] 98 := ((H2.set 2 _).set 3 _).call hb3)
         go_loud (have K3 : Keep [p] w w3 := ((K2.setCell (p := ⟨p, 2, none⟩) (.inl (List.mem_cons_self ..)) _).setCell (p := ⟨p, 3, none⟩) (.inl (List.mem_cons_self ..)) _).call hb3)
         have s3 := H3.lt)
      | (at_make; go_loud (refine wpList_make_full _ rfl _ _ 96 rfl w3.heap.size 60 i0 _ 6 Try.underlying96 hi hz0 hz1 .i64 .i64 _ _ N (by go_simp) (by go_simp) HN.out HN.out (by rw [hz2]; omega) (by unfold maxLen; omega) (Nat.le_refl _) ?_)
         intro w4 hown hgrow
         go_loud (have Kg : Keep [] w3 w4 := by obtain ⟨g1, g2, g3, g4, g5⟩ := hgrow; exact ⟨g1, g2, g3, g4, fun k hk _ => g5 k hk (by simp)⟩)
         go_loud (have K4 : Keep [p] w w4 := K3.trans (R' := []) Kg (by simp))
         go_loud (have B4 := blk_made hown)
         go_loud (have H4 : Blk w4 p [.int .i64 m, .bool true, .int .i64 R, .int .i64 C', .slice sv sl sc, .int .i64 au] 98 := H3.keep (R := []) Kg (by simp))
         have hlt4 := H4.lt
         have l4 := H4.cell 4
         have l5 := H4.cell 5
         have lf := H4.frozen
         go_loud (simp at l4 l5)))
    go_end0
    refine ⟨rfl, w3.heap.size, ?_, ?_, ?_⟩
    · exact K3.size
    · refine ⟨N, [], by simp, ?_, ?_⟩
      · have := (H4.set 4 (.slice (some ⟨w3.heap.size, 0, none⟩) N N)).set 5 (.int .i64 0)
        simp only [List.length_replicate]
        exact this
      · simp only [List.append_nil]
        exact (B4.other (p := ⟨p, 4, none⟩) (by have := s3; simp only; omega) _).other (p := ⟨p, 5, none⟩) (by have := s3; simp only; omega) _
    · exact (K4.setCell (p := ⟨p, 4, none⟩) (.inl (List.mem_cons_self ..)) _).setCell (p := ⟨p, 5, none⟩) (.inl (List.mem_cons_self ..)) _

theorem rclear_calls {w : World} {p b : Nat} {s : S} (h : RSp w p b s) (hm : 2 ≤ s.model ∧ s.model ≤ 5) (alt : Bool) :
    Calls Try.prog 148 #[.pointer (some ⟨p, 0, none⟩), .bool alt] w fun e w' => e = .returned (.tuple #[]) ∧ ∃ b, w.heap.size ≤ b ∧ RSp w' p b (S.clr s.model alt) ∧ Keep [p] w w' := by
  obtain ⟨cap, ex, h0, h1, h2⟩ := h
  have h' : 2 ≤ (if alt = true then s.model else 2) ∧ (if alt = true then s.model else 2) ≤ 5 := by split <;> omega
  obtain ⟨f1, f2, f3⟩ := model_f _ h'
  have hp := vld_pos f3
  have e : cel (msize (if alt = true then s.model else 2)).1 (msize (if alt = true then s.model else 2)).2 = (((msize (if alt = true then s.model else 2)).1 * (msize (if alt = true then s.model else 2)).2).toNat : Int) := by unfold cel; rw [if_pos f3]; omega
  exact rclear_walk _ _ _ _ _ _ _ _ _ _ alt h1 _ f2 (by decide +kernel) f3 e

set_option maxRecDepth 100000 in
set_option maxHeartbeats 2000000 in
theorem rnew_walk (w : World) (m R C' : Int) (hm : vitrineref04_Model.f m = some (R, C', true)) (hm2 : vitrineref04_Model.f 2 = some (24, 80, true)) :
    Calls Try.prog 55 #[.int .i64 m] w fun e w' => ∃ p b, e = .returned (.pointer (some ⟨p, 0, none⟩)) ∧ w.heap.size ≤ p ∧ w.heap.size ≤ b ∧ RSp w' p b { model := m, alt := false, r := 24, c := 80, l := List.replicate 1920 C.zero, cur := 0 } ∧ Keep [] w w' := by
  have HM := Aside0.mk hm
  have HM2 := Aside0.mk hm2
  clear hm hm2
  go_enter Try.func55, Try.ntmps55
  go_wp2_with (first
    | (go_at_call 29; (with_reducible refine (vitrineref04_Model.calls _ _ _ _ _ HM.out).mono ?_); rintro e w1 ⟨rfl, hb1⟩
       have hb1' := hb1.size)
    | (go_at_call 148; go_loud (with_reducible refine (rclear_walk m 0 0 0 24 80 false none 0 0 false (Blk.new2 _ _ [.int .i64 m, .bool false, .int .i64 0, .int .i64 0, .slice none 0 0, .int .i64 0] 98) 1920 (by simpa using HM2.out) HM2.out (by decide +kernel) (by decide +kernel)).mono ?_); rintro e w2 ⟨rfl, b, hbb, hs, hk⟩))
  go_ret
  refine ⟨_, b, rfl, ?_, ?_, hs, ?_⟩
  · omega
  · have : (((w1.alloc (.cells #[.int .i64 R, .int .i64 C'] 28)).alloc (.cells #[.int .i64 m, .bool false, .int .i64 0, .int .i64 0, .slice none 0 0, .int .i64 0] 98))).heap.size = w1.heap.size + 2 := by rw [World.size_alloc2]
    omega
  · exact (((Keep.refl [] w).call hb1).alloc _ |>.alloc _).trans hk (by intro x hx; right; simp at hx; omega)

set_option maxRecDepth 100000 in
set_option maxHeartbeats 2000000 in
theorem rnew_none (w : World) (m R C' : Int) (hm : vitrineref04_Model.f m = some (R, C', false)) :
    Calls Try.prog 55 #[.int .i64 m] w fun e w' => e = .returned (.pointer none) ∧ Below w.heap.size w w' := by
  have HM := Aside0.mk hm
  clear hm
  go_enter Try.func55, Try.ntmps55
  go_wp2_with (first
    | (go_at_call 29; (with_reducible refine (vitrineref04_Model.calls _ _ _ _ _ HM.out).mono ?_); rintro e w1 ⟨rfl, hb1⟩
       have hb1' := hb1.size))
  go_ret
  exact ⟨rfl, hb1.alloc (by omega) _⟩

end Go.Proofs.Ytangandfgbnomaa.V
