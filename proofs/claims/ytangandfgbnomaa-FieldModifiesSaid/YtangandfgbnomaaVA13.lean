/- Layer 13's awake. -/
import Derived.Test.YtangandfgbnomaaVP1
import Derived.Test.YtangandfgbnomaaVY68
import Derived.Test.YtangandfgbnomaaVC0
namespace Go.Proofs.Ytangandfgbnomaa.V
open Go.RowKit
set_option linter.unusedVariables false
set_option linter.unusedSimpArgs false

/-- The example of layer 13. -/
def ex13 : List Ac := [⟨3, 2, false, 32, C.zero, []⟩, ⟨3, 5, false, 0, C.zero, []⟩]
theorem ex13_fine : ∀ a ∈ ex13, a.fine := by
  intro a ha
  simp only [ex13, List.mem_cons, List.not_mem_nil, or_false] at ha
  rcases ha with rfl | rfl <;> (refine ⟨by decide, by decide, by decide, by decide, fun x hx => (by cases hx), by decide⟩)
theorem ex13_tx : ∀ a ∈ ex13, a.tx = [] := by
  intro a ha
  simp only [ex13, List.mem_cons, List.not_mem_nil, or_false] at ha
  rcases ha with rfl | rfl <;> rfl
theorem ex13_l : ((S.clr 2 false).acts ex13).l = ((List.replicate 1920 C.zero).set 2 ⟨0, true, 32, 0, 0, 0⟩).set 5 ⟨0, true, 0, 0, 0, 0⟩ := by kernel_rfl
theorem ex13_at (n : Nat) (hn : n < 1920) : ata ((S.clr 2 false).acts ex13).l n = (decide (n = 2) || decide (n = 5)) := by
  unfold ata
  rw [ex13_l, List.getD_eq_getElem?_getD, List.getElem?_set, List.getElem?_set]
  by_cases h5 : 5 = n
  · subst h5; rw [if_pos rfl, if_pos (by rw [List.length_set, List.length_replicate]; decide)]; rfl
  · rw [if_neg h5]
    by_cases h2 : 2 = n
    · subst h2; rw [if_pos rfl, if_pos (by rw [List.length_replicate]; decide)]; rfl
    · rw [if_neg h2, List.getElem?_replicate, if_pos hn]
      have h5' : ¬ n = 5 := fun e => h5 e.symm
      have h2' : ¬ n = 2 := fun e => h2 e.symm
      rw [decide_eq_false h2', decide_eq_false h5']; rfl
theorem ex13_len : ((S.clr 2 false).acts ex13).l.length = 1920 := by rw [ex13_l, List.length_set, List.length_set, List.length_replicate]
theorem ex13_start : stt ((S.clr 2 false).acts ex13).l 1 = 5 := by
  have hl := ex13_len
  have h := ex13_at
  generalize ((S.clr 2 false).acts ex13).l = l at *
  rw [stt_eq, lst_skip (m := 0) (fin l) 2 (by decide) (fun j _ h2 => by rw [h j (by omega)]; simp; omega), lst_zero]
  unfold fin
  rw [hl, lst_skip (m := 6) (-1) 1920 (by decide) (fun j h1 h2 => by rw [h j (by omega)]; simp; omega), lst_at (n := 5) _ (by rw [h 5 (by decide)]; rfl)]
  rfl
theorem ex13_next : nx ((S.clr 2 false).acts ex13).l 0 false = 6 := by decide +kernel
theorem ex13_length : (rpl ((S.clr 2 false).acts ex13).l 5).length = 1916 := by
  have hl := ex13_len
  have h := ex13_at
  generalize ((S.clr 2 false).acts ex13).l = l at *
  unfold rpl
  rw [if_pos (by rw [h 5 (by decide)]; rfl), plc_length]
  refine lenp_eq (by omega) (fun j hj => ?_) ?_
  · rw [hl]
    by_cases hc : 5 + 1 + j < 1920
    · rw [Nat.mod_eq_of_lt hc, h _ hc]; simp; omega
    · rw [Nat.mod_eq_sub_mod (by omega), Nat.mod_eq_of_lt (by omega), h _ (by omega)]; simp; omega
  · rw [hl, h _ (by decide)]; rfl

set_option maxRecDepth 100000 in
set_option maxHeartbeats 1000000 in
theorem awake13 (w : World) : Calls Try.prog 67 #[] w fun e w' => e = .returned (.bool true) ∧ Below w.heap.size w w' := by
  have hlay : Calls Try.prog 68 #[.int .u8 0, .slice (some ⟨w.heap.size, 0, none⟩) 2 2] (w.alloc (.cells #[.int .u8 3, .int .i64 2, .bool false, .int .u8 32, .int .u8 0, .bool false, .int .u8 0, .int .u8 0, .int .u8 0, .int .u8 0, .slice none 0 0, .int .u8 3, .int .i64 5, .bool false, .int .u8 0, .int .u8 0, .bool false, .int .u8 0, .int .u8 0, .int .u8 0, .int .u8 0, .slice none 0 0] 67)) fun e w' => ∃ p b q d, e = .returned (.tuple #[.pointer (some ⟨p, 0, none⟩), .pointer (some ⟨q, 0, none⟩)]) ∧ (w.heap.size ≤ p ∧ w.heap.size ≤ b ∧ w.heap.size ≤ q ∧ w.heap.size ≤ d) ∧ Two w' p b q d ((S.clr 2 false).acts ex13) ∧ Keep [] w w' := by
    have hA : Acts (w.alloc (.cells (acts11 ex13).toArray 67)) (some ⟨w.heap.size, 0, none⟩) ex13 := acts_blk (Blk.new w (acts11 ex13) 67) ex13_fine ex13_tx
    refine (lay68 (w := w.alloc (.cells (acts11 ex13).toArray 67)) 0 (by decide) _ 2 ex13 hA (by decide)).mono ?_
    rintro e w' ⟨p, b, q, d, he, hge, hT, hk⟩
    rw [World.size_alloc] at hge
    exact ⟨p, b, q, d, he, by omega, hT, ((Keep.refl [] w).alloc _).trans hk (by simp)⟩
  have hok : ((S.clr 2 false).acts ex13).ok := S.ok.acts ex13 (S.clr_ok 2 false (by decide)) (by show 2 ≤ (2 : Int) ∧ (2 : Int) ≤ 5; decide) ex13_fine
  have hl := ex13_len
  have h1 := ex13_start
  have h2 := ex13_next
  have h3 := ex13_length
  generalize (S.clr 2 false).acts ex13 = X at *
  have i1 : X.ix 1 = 1 := hok.self (n := 1) (by omega)
  have i0 : X.ix 0 = 0 := hok.self (n := 0) (by omega)
  have HH := Aside0.mk (And.intro h1 (And.intro h2 (And.intro h3 (And.intro i0 (And.intro i1 hl)))))
  have HO := Aside0.mk hok
  have k0 : Keep [] w w := Keep.refl _ _
  clear h1 h2 h3 hok i0 i1 hl
  go_enter Try.func67, Try.ntmps67
  go_wp2_with (first
    | (go_at_call 68; (with_reducible refine hlay.mono ?_); rintro e w1 ⟨p, b, q, d, rfl, hge, hT, hk⟩
       have hst := start_calls hT.1 HO.out 1
       rw [HH.out.2.2.2.2.1, HH.out.1] at hst
       have hnx : ∀ W, Keep [] w1 W → Calls Try.prog 69 #[.pointer (some ⟨p, 0, none⟩), .int .i64 0] W fun e w' => e = .returned (.int .i64 6) ∧ Below W.heap.size W w' := fun W kw => by
         have := next_calls (hT.1.keep kw (by simp) (by simp)) HO.out 0
         rw [HH.out.2.2.2.1, HH.out.2.1] at this; exact this
       have hle : ∀ W, Keep [] w1 W → Calls Try.prog 111 #[.pointer (some ⟨p, 0, none⟩), .int .i64 5] W fun e w' => e = .returned (.int .i64 1916) ∧ Below W.heap.size W w' := fun W kw => by
         have := length_calls (hT.1.keep kw (by simp) (by simp)) HO.out (a := 5) (by rw [HH.out.2.2.2.2.2]; decide)
         rw [HH.out.2.2.1] at this; exact this
       have K1 := Aside0.mk (k0.trans hk (by simp))
       have kr : Keep [] w1 w1 := Keep.refl _ _
       clear hge hk hT)
    | (go_at_call 87; (with_reducible refine hst.mono ?_); rintro e w2 ⟨rfl, hb2⟩; have k2 := kr.call hb2)
    | (go_at_call 69; (with_reducible refine (hnx _ k2).mono ?_); rintro e w3 ⟨rfl, hb3⟩; have k3 := k2.call hb3)
    | (go_at_call 111; (with_reducible refine (hle _ k3).mono ?_); rintro e w4 ⟨rfl, hb4⟩))
  go_ret
  exact ⟨rfl, ((K1.out.trans k3 (by simp)).call hb4).below⟩

end Go.Proofs.Ytangandfgbnomaa.V
