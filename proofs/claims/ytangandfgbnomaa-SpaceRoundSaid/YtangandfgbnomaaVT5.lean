/- Walks of Space.Clear and space.New. -/
import Derived.Test.YtangandfgbnomaaVT4
namespace Go.Proofs.Ytangandfgbnomaa.V
open Go.RowKit Go.Proofs.YtangandfgbnomaaW.PrintWords Go.Proofs.YtangandfgbnomaaW.PrintLast Go.Proofs.YtangandfgbnomaaW.PrintMore
set_option linter.unusedVariables false
set_option linter.unusedSimpArgs false

theorem info60 : (Try.prog.info? 60).map (fun i => (i.zero, i.size, i.bytes)) = some (some (.agg #[.int .u8 0, .bool false, .int .u8 0, .int .u8 0, .int .u8 0, .int .u8 0]), 6, 6) := by kernel_rfl

theorem flat_zeros (n : Nat) : (madeCells #[.int .u8 0, .bool false, .int .u8 0, .int .u8 0, .int .u8 0, .int .u8 0] (n * 6)).toList = flat (List.replicate n C.zero) := by
  have hl := flat_length (List.replicate n C.zero)
  rw [List.length_replicate] at hl
  apply List.ext_getElem?
  intro k
  by_cases hk : k < n * 6
  · have hi : k / 6 < (List.replicate n C.zero).length := by rw [List.length_replicate]; omega
    have h1 := flat_get (List.replicate n C.zero) (k / 6) hi (k % 6) (by omega)
    have e : 6 * (k / 6) + k % 6 = k := by omega
    rw [e] at h1
    rw [h1]
    have h6 : k % 6 < 6 := by omega
    simp only [madeCells, Array.toList_map, Array.toList_range, List.getElem?_map, List.getElem_replicate]
    rw [List.getElem?_range hk]
    simp only [Option.map_some]
    generalize k % 6 = m at h6
    have hm : m = 0 ∨ m = 1 ∨ m = 2 ∨ m = 3 ∨ m = 4 ∨ m = 5 := by omega
    rcases hm with rfl | rfl | rfl | rfl | rfl | rfl <;> simp [C.zero]
  · rw [List.getElem?_eq_none (by rw [Array.length_toList, size_madeCells]; omega), List.getElem?_eq_none (by omega)]

theorem blk_made {w : World} {base g n : Nat} (h : w.ownsRow base 60 6 (.slice (some ⟨g, 0, none⟩) n n) n (madeCells #[.int .u8 0, .bool false, .int .u8 0, .int .u8 0, .int .u8 0, .int .u8 0] (n * 6)).toList) : Blk w g (flat (List.replicate n C.zero)) 60 := by
  rcases h.2 with ⟨e, _⟩ | ⟨g', cap, cur, e, _, hh, _, _, hs, ht⟩
  · cases e
  · injection e with e1 _ e3
    injection e1 with e1
    injection e1 with e1
    subst e1 e3
    rw [flat_zeros] at ht
    unfold Blk
    rw [hh]
    have : cur.toList = flat (List.replicate n C.zero) := by
      rw [← ht, List.take_of_length_le (by rw [Array.length_toList, hs]; exact Nat.le_refl _)]
    rw [← this]

/-- A model's size. -/
def msize (m : Int) : Int × Int := if m = 2 then (24, 80) else if m = 3 then (32, 80) else if m = 4 then (43, 80) else (27, 132)
/-- A space as at first. -/
def S.clr (m : Int) (alt : Bool) : S :=
  let z := msize (if alt = true then m else 2)
  { model := m, alt := alt, r := z.1, c := z.2, l := List.replicate (z.1 * z.2).toNat C.zero, cur := 0 }

theorem model_f (m : Int) (h : 2 ≤ m ∧ m ≤ 5) : addr_Model.f m = some ((msize m).1, (msize m).2, 0) ∧ vitrineref04_Model.f m = some ((msize m).1, (msize m).2, true) ∧ vld (msize m).1 (msize m).2 = true := by
  have : m = 2 ∨ m = 3 ∨ m = 4 ∨ m = 5 := by omega
  rcases this with rfl | rfl | rfl | rfl <;> decide +kernel

theorem cnt_zeros (n : Nat) : cnt (List.replicate n C.zero) = 0 := by
  induction n with
  | zero => rfl
  | succ n ih => rw [List.replicate_succ, cnt_cons, ih]; rfl

theorem S.clr_ok (m : Int) (alt : Bool) (h : 2 ≤ m ∧ m ≤ 5) : (S.clr m alt).ok := by
  have h' : 2 ≤ (if alt = true then m else 2) ∧ (if alt = true then m else 2) ≤ 5 := by split <;> omega
  obtain ⟨_, _, hv⟩ := model_f _ h'
  have hp := vld_pos hv
  refine ⟨hv, ?_, by show (0 : Int) ≤ 0; omega, by show (0 : Int) < _; simp only [S.clr]; omega, ?_⟩
  · show ((List.replicate _ C.zero).length : Int) = _
    rw [List.length_replicate]; simp only [S.clr]; omega
  · intro c hc
    have := List.eq_of_mem_replicate hc
    subst this
    exact ⟨by decide, by decide, by decide, by decide, by decide, by decide⟩

set_option maxRecDepth 100000 in
set_option maxHeartbeats 2000000 in
theorem clear_walk {w : World} {p : Nat} (m ar ac au at_ R C' : Int) (al : Bool) (sv : Option Addr) (sl sc : Nat) (alt : Bool) (h : Blk w p [.int .i64 m, .bool al, .int .i64 ar, .int .i64 ac, .slice sv sl sc, .int .i64 au, .int .i64 at_] 155)
    (N : Nat) (hm : addr_Model.f (if alt = true then m else 2) = some (R, C', 0)) (hv : vld R C' = true) (hN : cel R C' = (N : Int)) :
    Calls Try.prog 99 #[.pointer (some ⟨p, 0, none⟩), .bool alt] w fun e w' => e = .returned (.tuple #[]) ∧ ∃ b, w.heap.size ≤ b ∧ PSp w' p b { model := m, alt := alt, r := R, c := C', l := List.replicate N C.zero, cur := 0 } ∧ Keep [p] w w' := by
  have plt := h.lt
  have c0 : ∀ W, Blk W p [.int .i64 m, .bool al, .int .i64 ar, .int .i64 ac, .slice sv sl sc, .int .i64 au, .int .i64 at_] 155 → W.cell? ⟨p, 0, none⟩ = some (.int .i64 m) := fun W h => h.cell 0
  obtain ⟨i0, hi, hz0, hz1, hz2⟩ := info_parts info60
  have hNb : (N : Int) ≤ 3564 ∧ 0 ≤ (N : Int) := by
    have hp := vld_pos hv
    have e : cel R C' = R * C' := by unfold cel; rw [if_pos hv]
    omega
  have f0 := h.cell 0
  have f1 := h.cell 1
  have f2 := h.cell 2
  have f3 := h.cell 3
  have f4 := h.cell 4
  have f5 := h.cell 5
  have f6 := h.cell 6
  have ff := h.frozen
  simp at f0 f1 f2 f3 f4 f5 f6
  have HM := Aside0.mk hm
  have HN := Aside0.mk hN
  clear hm c0 hN
  cases alt
  · skip
    have hm := HM.out
    simp only [if_true, Bool.false_eq_true, if_false] at hm
    have HM2 := Aside0.mk hm
    clear hm
    go_enter Try.func99, Try.ntmps99
    go_wp2_with (first
      | (go_at_call 28; (with_reducible refine (addr_Model.calls _ _ _ _ _ HM2.out).mono ?_); rintro e w1 ⟨rfl, hb1⟩
         go_loud (have H1 : Blk w1 p [.int .i64 m, .bool false, .int .i64 ar, .int .i64 ac, .slice sv sl sc, .int .i64 au, .int .i64 at_] 155 := (h.set 1 _).call hb1)
         go_loud (have K1 : Keep [p] w w1 := ((Keep.refl [p] w).setCell (p := ⟨p, 1, none⟩) (.inl (List.mem_cons_self ..)) _).call hb1)
         have p1 := H1.lt
         have j2 := H1.cell 2
         have j3 := H1.cell 3
         have jf := H1.frozen
         go_loud (simp at j2 j3))
      | (go_at_call 33; (with_reducible refine (c_cells _ _ _).mono ?_); rintro e w2 ⟨rfl, hb2⟩
         have H2 : Blk w2 p [.int .i64 m, .bool false, .int .i64 R, .int .i64 C', .slice sv sl sc, .int .i64 au, .int .i64 at_] 155 := ((H1.set 2 _).set 3 _).call hb2
         have K2 : Keep [p] w w2 := ((K1.setCell (p := ⟨p, 2, none⟩) (.inl (List.mem_cons_self ..)) _).setCell (p := ⟨p, 3, none⟩) (.inl (List.mem_cons_self ..)) _).call hb2
         have s2 := H2.lt)
      | (at_make; go_loud (refine wpList_make_full _ rfl _ _ 96 rfl w2.heap.size 60 i0 _ 6 Try.underlying96 hi hz0 hz1 .i64 .i64 _ _ N (by go_simp) (by go_simp) HN.out HN.out (by rw [hz2]; omega) (by unfold maxLen; omega) (Nat.le_refl _) ?_)
         intro w3 hown hgrow
         go_loud (have Kg : Keep [] w2 w3 := by obtain ⟨g1, g2, g3, g4, g5⟩ := hgrow; exact ⟨g1, g2, g3, g4, fun k hk _ => g5 k hk (by simp)⟩)
         go_loud (have K3 : Keep [p] w w3 := K2.trans (R' := []) Kg (by simp))
         go_loud (have B3 := blk_made hown)
         go_loud (have H3 : Blk w3 p [.int .i64 m, .bool false, .int .i64 R, .int .i64 C', .slice sv sl sc, .int .i64 au, .int .i64 at_] 155 := H2.keep (R := []) Kg (by simp))
         have hlt3 := H3.lt
         have l4 := H3.cell 4
         have l5 := H3.cell 5
         have l6 := H3.cell 6
         have lf := H3.frozen
         go_loud (simp at l4 l5 l6)))
    go_end0
    refine ⟨rfl, w2.heap.size, ?_, ?_, ?_⟩
    · exact K2.size
    · refine ⟨N, [], by simp, ?_, ?_⟩
      · have := ((H3.set 4 (.slice (some ⟨w2.heap.size, 0, none⟩) N N)).set 5 (.int .i64 0)).set 6 (.int .i64 0)
        simp only [List.length_replicate, cnt_zeros]
        exact this
      · simp only [List.append_nil]
        exact ((B3.other (p := ⟨p, 4, none⟩) (by have := s2; simp only; omega) _).other (p := ⟨p, 5, none⟩) (by have := s2; simp only; omega) _).other (p := ⟨p, 6, none⟩) (by have := s2; simp only; omega) _
    · exact ((K3.setCell (p := ⟨p, 4, none⟩) (.inl (List.mem_cons_self ..)) _).setCell (p := ⟨p, 5, none⟩) (.inl (List.mem_cons_self ..)) _).setCell (p := ⟨p, 6, none⟩) (.inl (List.mem_cons_self ..)) _
  · skip
    have hm := HM.out
    simp only [if_true, Bool.false_eq_true, if_false] at hm
    have HM2 := Aside0.mk hm
    clear hm
    go_enter Try.func99, Try.ntmps99
    go_wp2_with (first
      | (go_at_call 28; (with_reducible refine (addr_Model.calls _ _ _ _ _ HM2.out).mono ?_); rintro e w1 ⟨rfl, hb1⟩
         go_loud (have H1 : Blk w1 p [.int .i64 m, .bool true, .int .i64 ar, .int .i64 ac, .slice sv sl sc, .int .i64 au, .int .i64 at_] 155 := (h.set 1 _).call hb1)
         go_loud (have K1 : Keep [p] w w1 := ((Keep.refl [p] w).setCell (p := ⟨p, 1, none⟩) (.inl (List.mem_cons_self ..)) _).call hb1)
         have p1 := H1.lt
         have j2 := H1.cell 2
         have j3 := H1.cell 3
         have jf := H1.frozen
         go_loud (simp at j2 j3))
      | (go_at_call 33; (with_reducible refine (c_cells _ _ _).mono ?_); rintro e w2 ⟨rfl, hb2⟩
         have H2 : Blk w2 p [.int .i64 m, .bool true, .int .i64 R, .int .i64 C', .slice sv sl sc, .int .i64 au, .int .i64 at_] 155 := ((H1.set 2 _).set 3 _).call hb2
         have K2 : Keep [p] w w2 := ((K1.setCell (p := ⟨p, 2, none⟩) (.inl (List.mem_cons_self ..)) _).setCell (p := ⟨p, 3, none⟩) (.inl (List.mem_cons_self ..)) _).call hb2
         have s2 := H2.lt)
      | (at_make; go_loud (refine wpList_make_full _ rfl _ _ 96 rfl w2.heap.size 60 i0 _ 6 Try.underlying96 hi hz0 hz1 .i64 .i64 _ _ N (by go_simp) (by go_simp) HN.out HN.out (by rw [hz2]; omega) (by unfold maxLen; omega) (Nat.le_refl _) ?_)
         intro w3 hown hgrow
         go_loud (have Kg : Keep [] w2 w3 := by obtain ⟨g1, g2, g3, g4, g5⟩ := hgrow; exact ⟨g1, g2, g3, g4, fun k hk _ => g5 k hk (by simp)⟩)
         go_loud (have K3 : Keep [p] w w3 := K2.trans (R' := []) Kg (by simp))
         go_loud (have B3 := blk_made hown)
         go_loud (have H3 : Blk w3 p [.int .i64 m, .bool true, .int .i64 R, .int .i64 C', .slice sv sl sc, .int .i64 au, .int .i64 at_] 155 := H2.keep (R := []) Kg (by simp))
         have hlt3 := H3.lt
         have l4 := H3.cell 4
         have l5 := H3.cell 5
         have l6 := H3.cell 6
         have lf := H3.frozen
         go_loud (simp at l4 l5 l6)))
    go_end0
    refine ⟨rfl, w2.heap.size, ?_, ?_, ?_⟩
    · exact K2.size
    · refine ⟨N, [], by simp, ?_, ?_⟩
      · have := ((H3.set 4 (.slice (some ⟨w2.heap.size, 0, none⟩) N N)).set 5 (.int .i64 0)).set 6 (.int .i64 0)
        simp only [List.length_replicate, cnt_zeros]
        exact this
      · simp only [List.append_nil]
        exact ((B3.other (p := ⟨p, 4, none⟩) (by have := s2; simp only; omega) _).other (p := ⟨p, 5, none⟩) (by have := s2; simp only; omega) _).other (p := ⟨p, 6, none⟩) (by have := s2; simp only; omega) _
    · exact ((K3.setCell (p := ⟨p, 4, none⟩) (.inl (List.mem_cons_self ..)) _).setCell (p := ⟨p, 5, none⟩) (.inl (List.mem_cons_self ..)) _).setCell (p := ⟨p, 6, none⟩) (.inl (List.mem_cons_self ..)) _

end Go.Proofs.Ytangandfgbnomaa.V
