/- Walks of slices.Clone of cells, and of Space.Copy. -/
import Derived.Test.YtangandfgbnomaaVU9
namespace Go.Proofs.Ytangandfgbnomaa.V
open Go.RowKit Go.Proofs.YtangandfgbnomaaW.PrintWords Go.Proofs.YtangandfgbnomaaW.PrintLast Go.Proofs.YtangandfgbnomaaW.PrintMore
set_option linter.unusedVariables false
set_option linter.unusedSimpArgs false

theorem flat_one (l : List C) : ∀ u ∈ flat l, u.oneCell' = true := by
  intro u hu
  unfold flat at hu
  obtain ⟨c, _, hc⟩ := List.mem_flatMap.1 hu
  simp only [C.vs, List.mem_cons, List.not_mem_nil, or_false] at hc
  rcases hc with rfl | rfl | rfl | rfl | rfl | rfl <;> rfl

theorem slice_nil96 : ∀ (a : Addr) (n c : Nat) (w : World), Sem.run Try.prog (binOp .eql 96 (.slice (some a) n c) (.slice none 0 0)) w = .ok (.bool false) w := fun _ _ _ _ => by kernel_rfl

set_option maxRecDepth 100000 in
set_option maxHeartbeats 2000000 in
theorem clone_calls {w : World} {b : Nat} {l : List C} {ex : List Value} (cap : Nat) (h : Blk w b (flat l ++ ex) 60) (hl : 1 ≤ l.length ∧ l.length ≤ 3564) :
    Calls Try.prog 151 #[.slice (some ⟨b, 0, none⟩) l.length cap] w fun e w' => ∃ b' cap' ex', e = .returned (.slice (some ⟨b', 0, none⟩) l.length cap') ∧ w.heap.size ≤ b' ∧ l.length ≤ cap' ∧ Blk w' b' (flat l ++ ex') 60 ∧ Below w.heap.size w w' := by
  obtain ⟨i0, hi, hz0, hz1, hz2⟩ := info_parts info60
  have hfl := flat_length l
  have H := Aside0.mk h
  have own0 : (w.alloc (.cells #[] 60)).ownsRow w.heap.size 60 6 (.slice (some ⟨w.heap.size, 0, none⟩) 0 0) 0 [] :=
    ⟨rfl, .inr ⟨w.heap.size, 0, #[], rfl, Nat.le_refl _, by have := Blk.new w [] 60; exact this, Nat.le_refl _, Nat.zero_le _, rfl, rfl⟩⟩
  have OWN := Aside0.mk own0
  clear own0
  have hnil := slice_nil96
  go_enter Try.func151, Try.ntmps151
  have hNews : ∀ j u, (flat l)[j]? = some u → (w.alloc (.cells #[] 60)).cell? (Addr.add ⟨b, 0, none⟩ j) = some u := by
    intro j u hu
    have := (H.out.alloc (.cells #[] 60)).cell j
    rw [List.getElem?_append_left (by have := (List.getElem?_eq_some_iff.1 hu).1; exact this), hu] at this
    have e : Addr.add ⟨b, 0, none⟩ j = ⟨b, j, none⟩ := by simp only [Addr.add, Nat.zero_add]; split <;> simp_all
    rw [e]; exact this
  have HN := Aside0.mk hNews
  clear hNews
  have hsz1 : (w.alloc (.cells #[] 60)).heap.size = w.heap.size + 1 := Array.size_push ..
  have HZ1 := Aside0.mk hsz1
  clear hsz1
  go_wp2_with (at_builtin; go_loud (refine wpList_append_own (w.alloc (.cells #[] 60)) rfl _ _ 96 rfl w.heap.size 60 i0 _ 6 6 Try.underlying96 hi hz0 hz1 hz2 rfl (by decide) _ 0 [] (by go_simp) OWN.out ⟨b, 0, none⟩ l.length cap (flat l) (by go_simp) (by omega) HN.out (flat_one l) (by unfold maxLen; omega) (by omega) (by have := HZ1.out; omega) ?_)
               intro v' w' hown hgrow hnn)
  have hbel : Below w.heap.size w w' := by
    obtain ⟨g1, g2, g3, g4, g5⟩ := hgrow
    have e := HZ1.out
    refine Keep.below (((Keep.refl [] w).alloc (.cells #[] 60)).trans (R' := [w.heap.size]) ⟨g1, g2, g3, g4, fun k hk hne => g5 k hk ?_⟩ (fun x hx => .inr (by simp at hx; omega)))
    intro e2
    simp only [Value.ownBlock, Option.some.injEq] at e2
    exact hne (by simp [e2])
  rcases hown.2 with ⟨_, e⟩ | ⟨g, cap', cur, rfl, hg, hh, hn, _, hs, ht⟩
  · omega
  · rw [Nat.zero_add] at *
    go_ret
    refine ⟨g, cap', cur.toList.drop (l.length * 6), rfl, hg, hn, ?_, hbel⟩
    unfold Blk
    rw [hh]
    simp only [List.nil_append] at ht
    rw [← ht, List.take_append_drop]

theorem ptr_nil61 : ∀ (a : Addr) (w : World), Sem.run Try.prog (binOp .eql 61 (.pointer (some a)) (.pointer none)) w = .ok (.bool false) w := fun _ _ => by kernel_rfl

set_option maxRecDepth 100000 in
set_option maxHeartbeats 2000000 in
theorem copy_calls {w : World} {p b : Nat} {s : S} (h : PSp w p b s) (ok : s.ok) :
    Calls Try.prog 61 #[.pointer (some ⟨p, 0, none⟩)] w fun e w' => ∃ p' b', e = .returned (.pointer (some ⟨p', 0, none⟩)) ∧ w.heap.size ≤ p' ∧ w.heap.size ≤ b' ∧ PSp w' p' b' s ∧ Below w.heap.size w w' := by
  have hp := h
  obtain ⟨cap, ex, hcap, h1, h2⟩ := h
  have plt := h1.lt
  have hl : 1 ≤ s.l.length ∧ s.l.length ≤ 3564 := by obtain ⟨_, _, a, b⟩ := S.ok.ix ok 0; exact ⟨b, a⟩
  have f0 := h1.cell 0
  have f1 := h1.cell 1
  have f2 := h1.cell 2
  have f3 := h1.cell 3
  have f4 := h1.cell 4
  have f5 := h1.cell 5
  have f6 := h1.cell 6
  have ff := h1.frozen
  simp at f0 f1 f2 f3 f4 f5 f6
  have HC := Aside0.mk (clone_calls cap (h2.alloc (.cells #[.int .i64 s.model, .bool s.alt, .int .i64 s.r, .int .i64 s.c, .slice (some ⟨b, 0, none⟩) s.l.length cap, .int .i64 s.cur, .int .i64 (cnt s.l)] 155)) hl)
  go_enter Try.func61, Try.ntmps61
  go_wp2_with (go_at_call 151; go_loud (with_reducible refine HC.out.mono ?_); rintro e w1 ⟨b', cap', ex', rfl, hb', hc', hB, hbel⟩
               have G := (Blk.new w [.int .i64 s.model, .bool s.alt, .int .i64 s.r, .int .i64 s.c, .slice (some ⟨b, 0, none⟩) s.l.length cap, .int .i64 s.cur, .int .i64 (cnt s.l)] 155).call hbel
               have g4 := G.cell 4
               have gf := G.frozen
               have gl := G.lt
               go_loud (simp at g4))
  go_ret
  have hsz1 : ∀ o, (w.alloc o).heap.size = w.heap.size + 1 := fun o => Array.size_push ..
  rw [hsz1] at hb'
  refine ⟨_, b', rfl, Nat.le_refl _, by omega, ⟨cap', ex', hc', ?_, ?_⟩, ?_⟩
  · exact G.set 4 _
  · exact hB.other (p := ⟨w.heap.size, 4, none⟩) (by simp only; omega) _
  · exact Keep.below ((((Keep.refl [] w).alloc _).call hbel).setCell (p := ⟨w.heap.size, 4, none⟩) (.inr (Nat.le_refl _)) _)

end Go.Proofs.Ytangandfgbnomaa.V
