/- slices.Equal and slices.Index of numbers. -/
import Derived.Test.YtangandfgbnomaaVZ1
import Derived.Test.YtangandfgbnomaaVC0
import Derived.Test.YtangandfgbnomaaVN
namespace Go.Proofs.Ytangandfgbnomaa.V
open Go.RowKit
set_option linter.unusedVariables false
set_option linter.unusedSimpArgs false

theorem IR.ints {w : World} {base : Nat} {v : Value} {l : List Int} (h : IR w base v l) : ∃ ta cap, v = .slice ta l.length cap ∧ Ints w ta l := by
  rcases h.shape with ⟨rfl, rfl⟩ | ⟨_, g, cap, rfl, _, _, _, h5⟩
  · exact ⟨none, 0, rfl, fun i hi => by simp at hi⟩
  · refine ⟨_, _, rfl, fun i hi => ⟨_, rfl, fun W k => ?_⟩⟩
    have e : Addr.add ⟨g, 0, none⟩ i = ⟨g, i, none⟩ := by
      unfold Addr.add
      split
      · rename_i h0; rw [h0]
      · simp
    rw [e]; exact k.cell (h5 i hi)
theorem Ints.keep {w W : World} {ta : Option Addr} {l : List Int} (h : Ints w ta l) (k : Keep [] w W) : Ints W ta l :=
  fun i hi => by obtain ⟨x, e, f⟩ := h i hi; exact ⟨x, e, fun V hV => f V (k.trans hV (by simp))⟩
theorem Ints.take {w : World} {ta : Option Addr} {l : List Int} (h : Ints w ta l) (n : Nat) : Ints w ta (l.take n) := fun i hi => by
  have hi2 : i < l.length := by rw [List.length_take] at hi; omega
  obtain ⟨x, e, f⟩ := h i hi2
  refine ⟨x, e, fun V hV => ?_⟩
  rw [f V hV, List.getD_eq_getElem?_getD, List.getD_eq_getElem?_getD, List.getElem?_take_of_lt (by rw [List.length_take] at hi; omega)]

set_option maxRecDepth 100000 in
set_option maxHeartbeats 2000000 in
theorem equal78_calls {w : World} {ta tb : Option Addr} {l : List Int} (c1 c2 : Nat) (h1 : Ints w ta l) (h2 : Ints w tb l) (hl : l.length ≤ 100000) :
    Calls Try.prog 78 #[.slice ta l.length c1, .slice tb l.length c2] w fun e w' => e = .returned (.bool true) ∧ Below w.heap.size w w' := by
  have H1 := Aside0.mk h1
  have H2 := Aside0.mk h2
  obtain ⟨n, hn⟩ : ∃ n, l.length = n := ⟨_, rfl⟩
  have HN := Aside0.mk hn
  rw [hn] at hl ⊢
  clear h1 h2 hn
  go_enter Try.func78, Try.ntmps78
  go_wp2
  go_loopg [13] n (fun kq v w' => ∃ i : Nat, v = .int .i64 i ∧ Aside0 (kq = n - i ∧ i ≤ n) ∧ Aside0 (Keep [] w w'))
  case atStart => exact ⟨0, rfl, ⟨rfl, Nat.zero_le _⟩, ⟨Keep.refl _ _⟩⟩
  case round =>
    obtain ⟨i, rfl, HI, HK⟩ := hrel
    obtain ⟨hi1, hi2⟩ := HI.out
    by_cases hc : (i : Int) < (n : Int)
    · have hcb : decide ((i : Int) < (n : Int)) = true := decide_eq_true hc
      have hin : i < n := by omega
      have hi0 : (0 : Int) ≤ (i : Int) := by omega
      obtain ⟨x, rfl, hx⟩ := (H1.out.keep HK.out) i (by rw [HN.out]; exact hin)
      obtain ⟨y, rfl, hy⟩ := (H2.out.keep HK.out) i (by rw [HN.out]; exact hin)
      generalize l.getD i 0 = z at *
      have WE1 := Aside0.mk (show wrap64 ((i : Int) + 1) = ((i + 1 : Nat) : Int) by unfold wrap64; omega)
      have K0 : Keep [] wr wr.drew := (Keep.refl [] wr).drew
      go_wp2_with fail
      refine wp_quiet_all (K := fun W => Keep [] wr W) (by kernel_rfl) (by kernel_rfl) K0 ?_
      repeat (first
        | go_big_quiet_skip
        | (go_big_quiet_want; first
            | (go_big_quiet_op; first
                | go_big_quiet_on)
            | (apply quiet_of
               · (intro W hW
                  go_simp
                  with_reducible rfl)
               simp only [Act.put, List.setIfInBounds_toArray, List.set_cons_zero, List.set_cons_succ]
               go_big_quiet_on)))
      refine wpQuiet_nil ?_
      intro W2 k2
      clear K0
      go_wp2
      go_roundg (n - (i + 1))
      case measure => omega
      case rel => exact ⟨i + 1, by first | rfl | (rw [WE1.out]), ⟨rfl, by omega⟩, ⟨HK.out.trans k2 (by simp)⟩⟩
    · have hcb : decide ((i : Int) < (n : Int)) = false := decide_eq_false hc
      go_wp2
      go_ret
      exact ⟨rfl, HK.out.below⟩

/-- Where a number stands first. -/
def ixof (l : List Int) (c : Int) : Int := if srch (fun i => c == l.getD i 0) l.length < l.length then (srch (fun i => c == l.getD i 0) l.length : Nat) else -1
set_option maxRecDepth 100000 in
set_option maxHeartbeats 2000000 in
theorem index95_calls {w : World} {ta : Option Addr} {l : List Int} (cap : Nat) (c : Int) (h1 : Ints w ta l) (hl : l.length ≤ 100000) :
    Calls Try.prog 95 #[.slice ta l.length cap, .int .i64 c] w fun e w' => e = .returned (.int .i64 (ixof l c)) ∧ Below w.heap.size w w' := by
  have H1 := Aside0.mk h1
  obtain ⟨n, hn⟩ : ∃ n, l.length = n := ⟨_, rfl⟩
  have HN := Aside0.mk hn
  rw [hn] at hl ⊢
  clear h1 hn
  go_enter Try.func95, Try.ntmps95
  go_wp2
  go_loopg [8] n (fun kq v w' => ∃ i : Nat, v = .int .i64 i ∧ Aside0 (kq = n - i ∧ i ≤ n) ∧ Aside0 (∀ j, j < i → (c == l.getD j 0) = false) ∧ Aside0 (Keep [] w w'))
  case atStart => exact ⟨0, rfl, ⟨rfl, Nat.zero_le _⟩, ⟨fun j hj => by omega⟩, ⟨Keep.refl _ _⟩⟩
  case round =>
    obtain ⟨i, rfl, HI, HJ, HK⟩ := hrel
    obtain ⟨hi1, hi2⟩ := HI.out
    by_cases hc : (i : Int) < (n : Int)
    · have hcb : decide ((i : Int) < (n : Int)) = true := decide_eq_true hc
      have hin : i < n := by omega
      have hi0 : (0 : Int) ≤ (i : Int) := by omega
      obtain ⟨x, rfl, hx⟩ := (H1.out.keep HK.out) i (by rw [HN.out]; exact hin)
      have hx2 := hx wr (Keep.refl _ _)
      obtain ⟨z, hz⟩ : ∃ z, l.getD i 0 = z := ⟨_, rfl⟩
      rw [hz] at hx2
      obtain ⟨q, hq⟩ : ∃ q, (c == z) = q := ⟨_, rfl⟩
      have HQ := Aside0.mk (show (c == l.getD i 0) = q by rw [hz]; exact hq)
      have WE1 := Aside0.mk (show wrap64 ((i : Int) + 1) = ((i + 1 : Nat) : Int) by unfold wrap64; omega)
      clear hz hx
      cases q
      · go_wp2
        go_roundg (n - (i + 1))
        case measure => omega
        case rel =>
          refine ⟨i + 1, by first | rfl | (rw [WE1.out]), ⟨rfl, by omega⟩, ⟨fun j hj => ?_⟩, HK⟩
          by_cases e : j = i
          · subst e; exact HQ.out
          · exact HJ.out j (by omega)
      · go_wp2
        go_ret
        refine ⟨?_, HK.out.below⟩
        have hs : srch (fun i => c == l.getD i 0) l.length = i := srch_eq (by rw [HN.out]; omega) HJ.out (fun _ => HQ.out)
        unfold ixof
        rw [hs, HN.out, if_pos hin]; rfl
    · have hcb : decide ((i : Int) < (n : Int)) = false := decide_eq_false hc
      go_wp2
      go_ret
      refine ⟨?_, HK.out.below⟩
      have hs : srch (fun i => c == l.getD i 0) l.length = n := by
        rw [HN.out]; exact srch_eq (Nat.le_refl _) (fun j hj => HJ.out j (by omega)) (fun h => absurd h (Nat.lt_irrefl _))
      unfold ixof
      rw [hs, HN.out, if_neg (Nat.lt_irrefl _)]; rfl

end Go.Proofs.Ytangandfgbnomaa.V
