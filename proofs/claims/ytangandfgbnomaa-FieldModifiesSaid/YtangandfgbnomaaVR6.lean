/- Is a space the document's? (law 12's same) -/
import Derived.Test.YtangandfgbnomaaVR5
import Derived.Test.YtangandfgbnomaaVW
import Derived.Test.YtangandfgbnomaaVU
import Derived.Test.YtangandfgbnomaaVP3
namespace Go.Proofs.Ytangandfgbnomaa.V
open Go.RowKit
set_option linter.unusedVariables false
set_option linter.unusedSimpArgs false


theorem cnt_atts (l : List C) : ((atts l).length : Int) = cnt l := by
  unfold atts attsTo cnt
  rw [List.length_map]
  have : ∀ k, k ≤ l.length → ((List.range k).filter (fun i => (l.getD i C.zero).at_)).length = ((l.take k).filter (fun c => c.at_)).length := by
    intro k
    induction k with
    | zero => intro _; rfl
    | succ k ih =>
      intro h
      have e : l.take (k + 1) = l.take k ++ [l.getD k C.zero] := by
        rw [List.take_add_one, List.getElem?_eq_getElem (by omega), List.getD_eq_getElem?_getD, List.getElem?_eq_getElem (by omega)]; rfl
      rw [List.range_succ, List.filter_append, List.length_append, ih (by omega), e, List.filter_append, List.length_append]
      congr 1
      cases hx : (l.getD k C.zero).at_ <;> simp only [List.filter_cons, List.filter_nil, hx, if_true, Bool.false_eq_true, if_false, List.length_cons, List.length_nil]
  rw [this _ (Nat.le_refl _), List.take_length]
theorem CR.keep {w w' : World} {base : Nat} {v : Value} {l : List C} (h : CR w base v l) (k : Keep [] w w') : CR w' base v l := by
  refine ⟨⟨h.1.1, ?_⟩, h.2⟩
  rcases h.1.2 with h | ⟨g, cap, cur, h1, h2, h3, h4⟩
  · exact .inl h
  · exact .inr ⟨g, cap, cur, h1, h2, k.heap h3 (by simp), h4⟩
theorem cell_eq_blk {l : List C} (h : 1 ≤ l.length) : l ≠ [] := by rintro rfl; simp at h

set_option maxRecDepth 100000 in
set_option maxHeartbeats 4000000 in
theorem same84_calls {w : World} {p b q d : Nat} {s : S} (h : PSp w p b s) (h2 : RSp w q d s) (ok : s.ok) :
    Calls Try.prog 84 #[.pointer (some ⟨p, 0, none⟩), .pointer (some ⟨q, 0, none⟩)] w fun e w' => e = .returned (.bool true) ∧ Below w.heap.size w w' := by
  obtain ⟨cap, ex, hcap, b1, b2⟩ := id h2
  obtain ⟨_, _, hlN, hl1⟩ := ok.ix 0
  have c101 : ∀ W, Keep [] w W → Calls Try.prog 101 #[.pointer (some ⟨p, 0, none⟩)] W fun e w' => e = .returned (.int .i64 s.model) ∧ Below W.heap.size W w' := fun W k => by
    have := model_calls (h.keep k (by simp) (by simp))
    exact this.mono (fun e w' h => ⟨h.1, by first | exact h.2 | (rw [h.2]; exact Below.refl _ _)⟩)
  have c102 : ∀ W, Keep [] w W → Calls Try.prog 102 #[.pointer (some ⟨p, 0, none⟩)] W fun e w' => e = .returned (.bool s.alt) ∧ Below W.heap.size W w' := fun W k => by
    have := alternate_calls (h.keep k (by simp) (by simp))
    exact this.mono (fun e w' h => ⟨h.1, by first | exact h.2 | (rw [h.2]; exact Below.refl _ _)⟩)
  have c57 : ∀ W, Keep [] w W → Calls Try.prog 57 #[.pointer (some ⟨p, 0, none⟩)] W fun e w' => e = .returned (.agg #[.int .i64 s.r, .int .i64 s.c]) ∧ Below W.heap.size W w' := fun W k => by
    have := size_calls (h.keep k (by simp) (by simp))
    exact this.mono (fun e w' h => ⟨h.1, by first | exact h.2 | (rw [h.2]; exact Below.refl _ _)⟩)
  have c64 : ∀ W, Keep [] w W → Calls Try.prog 64 #[.pointer (some ⟨p, 0, none⟩)] W fun e w' => e = .returned (.int .i64 s.cur) ∧ Below W.heap.size W w' := fun W k => by
    have := cursor_calls (h.keep k (by simp) (by simp))
    exact this.mono (fun e w' h => ⟨h.1, by first | exact h.2 | (rw [h.2]; exact Below.refl _ _)⟩)
  have c103 : ∀ W, Keep [] w W → Calls Try.prog 103 #[.pointer (some ⟨p, 0, none⟩)] W fun e w' => e = .returned (.bool (decide (0 < cnt s.l))) ∧ Below W.heap.size W w' := fun W k => by
    have := formatted_calls (h.keep k (by simp) (by simp))
    exact this.mono (fun e w' h => ⟨h.1, by first | exact h.2 | (rw [h.2]; exact Below.refl _ _)⟩)
  have c105 : ∀ W, Keep [] w W → Calls Try.prog 105 #[.pointer (some ⟨q, 0, none⟩)] W fun e w' => ∃ v, e = .returned v ∧ IR w' w.heap.size v (atts s.l) ∧ Keep [] W w' := fun W hk => by
    have := rattrs_calls (h2.keep hk (by simp) (by simp)) hlN
    exact this.mono (fun e w' ⟨v, h1, h2, h3⟩ => ⟨v, h1, h2.lower hk.size, Keep.of_below h3 []⟩)
  have c100 : ∀ W, Keep [] w W → Calls Try.prog 100 #[.pointer (some ⟨p, 0, none⟩), .int .i64 100000] W fun e w' => ∃ v, e = .returned v ∧ CR w' w.heap.size v s.l ∧ Keep [] W w' := fun W hk => by
    have := cells_calls (h.keep hk (by simp) (by simp)) ok 100000 (by decide)
    rw [List.take_of_length_le (by omega)] at this
    exact this.mono (fun e w' ⟨v, h1, h2, h3⟩ => ⟨v, h1, h2.lower hk.size, Keep.of_below h3 []⟩)
  have c158 : ∀ W, Keep [] w W → Calls Try.prog 158 #[.pointer (some ⟨p, 0, none⟩)] W fun e w' => ∃ v, e = .returned v ∧ (∃ B1, v = .func (.func 183) #[] #[.pointer (some ⟨B1, 0, none⟩)] ∧ Blk w' B1 [.pointer (some ⟨p, 0, none⟩)] 61) ∧ Keep [] W w' := fun W hk =>
    (attrs_calls W (some ⟨p, 0, none⟩)).mono (fun e w' ⟨h1, h2⟩ => ⟨_, h1, ⟨_, rfl, by rw [h2]; exact Blk.new W _ _⟩, by rw [h2]; exact (Keep.refl [] W).alloc _⟩)
  have c79 : ∀ W B1, Keep [] w W → Blk W B1 [.pointer (some ⟨p, 0, none⟩)] 61 → Calls Try.prog 79 #[.func (.func 183) #[] #[.pointer (some ⟨B1, 0, none⟩)]] W fun e w' => ∃ v, e = .returned v ∧ IR w' w.heap.size v (atts s.l) ∧ Keep [] W w' := fun W B1 hk hb => by
    have := collectF_calls (enters_of Try.func183 (by kernel_rfl) rfl) (by have := attsTo_length s.l s.l.length; unfold atts; omega) (tellsF_attrs (h.keep hk (by simp) (by simp)) ok hb)
    exact this.mono (fun e w' ⟨v, h1, h2, h3⟩ => ⟨v, h1, h2.lower hk.size, Keep.of_below h3 []⟩)
  have x0 : ∀ W, Keep [] w W → W.cell? ⟨q, 0, none⟩ = some (.int .i64 s.model) := fun W k => (b1.keep k (by simp)).cell 0
  have x1 : ∀ W, Keep [] w W → W.cell? ⟨q, 1, none⟩ = some (.bool s.alt) := fun W k => (b1.keep k (by simp)).cell 1
  have x2 : ∀ W, Keep [] w W → W.cell? ⟨q, 2, none⟩ = some (.int .i64 s.r) := fun W k => (b1.keep k (by simp)).cell 2
  have x3 : ∀ W, Keep [] w W → W.cell? ⟨q, 3, none⟩ = some (.int .i64 s.c) := fun W k => (b1.keep k (by simp)).cell 3
  have x4 : ∀ W, Keep [] w W → W.cell? ⟨q, 4, none⟩ = some (.slice (some ⟨d, 0, none⟩) s.l.length cap) := fun W k => (b1.keep k (by simp)).cell 4
  have x5 : ∀ W, Keep [] w W → W.cell? ⟨q, 5, none⟩ = some (.int .i64 s.cur) := fun W k => (b1.keep k (by simp)).cell 5
  have c106 : ∀ W v, Keep [] w W → CR W w.heap.size v s.l → Calls Try.prog 106 #[v, .slice (some ⟨d, 0, none⟩) s.l.length cap] W fun e w' => e = .returned (.bool true) ∧ Below W.heap.size W w' := fun W v hk hc => by
    obtain ⟨g, cp, ex2, rfl, _, hb⟩ := hc.blk (cell_eq_blk hl1)
    have := equal_calls cp cap hb (b2.keep hk (by simp)) hlN hlN
    rw [(leq_iff s.l s.l).2 rfl] at this
    exact this
  have c78 : ∀ W v u, Keep [] w W → IR W w.heap.size v (atts s.l) → IR W w.heap.size u (atts s.l) → Calls Try.prog 78 #[v, u] W fun e w' => e = .returned (.bool true) ∧ Below W.heap.size W w' := fun W v u hk hv hu => by
    obtain ⟨ta, cp, rfl, hi⟩ := hv.ints
    obtain ⟨tb, cq, rfl, hj⟩ := hu.ints
    exact equal78_calls cp cq hi hj (by have := attsTo_length s.l s.l.length; unfold atts; omega)
  have hcnt := cnt_atts s.l
  have hcn : decide (0 < cnt s.l) = decide ((0 : Int) < ((atts s.l).length : Int)) := by rw [hcnt]
  have kd : ∀ W, Keep [] w.drew W → Keep [] w W := fun W k => (Keep.refl [] w).drew.trans k (by simp)
  clear h h2 b1 b2 hcnt
  generalize cnt s.l = n1 at *
  obtain ⟨n2, hn2⟩ : ∃ n2, (atts s.l).length = n2 := ⟨_, rfl⟩
  rw [hn2] at hcn
  go_enter Try.func84, Try.ntmps84
  go_wp2
  apply wp_region_rel 63 [_, _, _, _, _, _, _, _, _, _, _, _, _, _, _, _, _, _, _, _, _, _, _, _, _, _, _, _, _, _, _, _, _, _, _, _, _, _, fun W v => IR W w.heap.size v (atts s.l), _, _, _, _] (by kernel_rfl) (by kernel_rfl) (Nat.le_refl _)
  case hO =>
    refine ⟨?o0, ?o1, ?o2, ?o3, ?o4, ?o5, ?o6, ?o7, ?o8, ?o9, ?o10, ?o11, ?o12, ?o13, ?o14, ?o15, ?o16, ?o17, ?o18, ?o19, ?o20, ?o21, ?o22, ?o23, ?o24, ?o25, ?o26, ?o27, ?o28, ?o29, ?o30, ?o31, ?o32, ?o33, ?o34, ?o35, ?o36, ?o37, ?o38, ?o39, ?o40, ?o41, ?o42, trivial⟩
    case o0 =>
      apply obl_val
      case hd => rfl
      intro a W hK hF hD
      have e0 : a.tmps.getD 0 undef = _ := hF.word 0 (by kernel_rfl)
      have hK := kd W hK
      refine ⟨rfl, ?_⟩
      (go_simp; with_reducible rfl)
    case o1 =>
      apply obl_quiet
      case hd => rfl
      intro a W hK hF hD
      have e5 : a.tmps.getD 5 undef = _ := hD.1
      refine ⟨rfl, ?_⟩
      apply enter_of
      case hr => (go_simp; first | exact ⟨rfl, rfl⟩ | rfl)
      case hc =>
        first
          | exact c101 W (kd W hK)
          | exact c102 W (kd W hK)
          | exact c57 W (kd W hK)
          | exact c64 W (kd W hK)
          | exact c103 W (kd W hK)
    case o2 =>
      apply obl_val
      case hd => rfl
      intro a W hK hF hD
      have e1 : a.tmps.getD 1 undef = _ := hF.word 1 (by kernel_rfl)
      have hK := kd W hK
      refine ⟨rfl, ?_⟩
      (go_simp; with_reducible rfl)
    case o3 =>
      apply obl_val
      case hd => rfl
      intro a W hK hF hD
      have e7 : a.tmps.getD 7 undef = _ := hD.1
      have hK := kd W hK
      refine ⟨rfl, ?_⟩
      (go_simp; with_reducible rfl)
    case o4 =>
      apply obl_val
      case hd => rfl
      intro a W hK hF hD
      have e8 : a.tmps.getD 8 undef = _ := hD.1
      have hK := kd W hK
      refine ⟨rfl, ?_⟩
      (go_simp; with_reducible rfl)
    case o5 =>
      apply obl_val
      case hd => rfl
      intro a W hK hF hD
      have e9 : a.tmps.getD 9 undef = _ := hD.1
      have hK := kd W hK
      refine ⟨rfl, ?_⟩
      (go_simp; with_reducible rfl)
    case o6 =>
      apply obl_val
      case hd => rfl
      intro a W hK hF hD
      have e6 : a.tmps.getD 6 undef = _ := hD.1
      have e10 : a.tmps.getD 10 undef = _ := hD.2.1
      have hK := kd W hK
      refine ⟨rfl, ?_⟩
      (go_simp; with_reducible rfl)
    case o7 =>
      apply obl_val
      case hd => rfl
      intro a W hK hF hD
      have e11 : a.tmps.getD 11 undef = _ := hD.1
      have e6 : a.tmps.getD 6 undef = _ := hD.2.1
      have hK := kd W hK
      refine ⟨rfl, ?_⟩
      (go_simp; with_reducible rfl)
    case o8 =>
      apply obl_val
      case hd => rfl
      intro a W hK hF hD
      have e12 : a.tmps.getD 12 undef = _ := hD.1
      have e0 : a.tmps.getD 0 undef = _ := hF.word 0 (by kernel_rfl)
      have hK := kd W hK
      refine ⟨⟨_, e12, rfl⟩, ?_⟩
      (go_simp; with_reducible rfl)
    case o9 =>
      apply obl_quiet
      case hd => rfl
      intro a W hK hF hD
      have e13 : a.tmps.getD 13 undef = _ := hD.1
      have e12 : a.tmps.getD 12 undef = _ := hD.2.1
      refine ⟨⟨_, e12, rfl⟩, ?_⟩
      apply enter_of
      case hr => (go_simp; first | exact ⟨rfl, rfl⟩ | rfl)
      case hc =>
        first
          | exact c101 W (kd W hK)
          | exact c102 W (kd W hK)
          | exact c57 W (kd W hK)
          | exact c64 W (kd W hK)
          | exact c103 W (kd W hK)
    case o10 =>
      apply obl_val
      case hd => rfl
      intro a W hK hF hD
      have e12 : a.tmps.getD 12 undef = _ := hD.1
      have e1 : a.tmps.getD 1 undef = _ := hF.word 1 (by kernel_rfl)
      have hK := kd W hK
      refine ⟨⟨_, e12, rfl⟩, ?_⟩
      (go_simp; with_reducible rfl)
    case o11 =>
      apply obl_val
      case hd => rfl
      intro a W hK hF hD
      have e15 : a.tmps.getD 15 undef = _ := hD.1
      have e12 : a.tmps.getD 12 undef = _ := hD.2.1
      have hK := kd W hK
      refine ⟨⟨_, e12, rfl⟩, ?_⟩
      (go_simp; with_reducible rfl)
    case o12 =>
      apply obl_val
      case hd => rfl
      intro a W hK hF hD
      have e16 : a.tmps.getD 16 undef = _ := hD.1
      have e12 : a.tmps.getD 12 undef = _ := hD.2.1
      have hK := kd W hK
      refine ⟨⟨_, e12, rfl⟩, ?_⟩
      (go_simp; with_reducible rfl)
    case o13 =>
      apply obl_val
      case hd => rfl
      intro a W hK hF hD
      have e17 : a.tmps.getD 17 undef = _ := hD.1
      have e12 : a.tmps.getD 12 undef = _ := hD.2.1
      have hK := kd W hK
      refine ⟨⟨_, e12, rfl⟩, ?_⟩
      (go_simp; with_reducible rfl)
    case o14 =>
      apply obl_val
      case hd => rfl
      intro a W hK hF hD
      have e14 : a.tmps.getD 14 undef = _ := hD.1
      have e18 : a.tmps.getD 18 undef = _ := hD.2.1
      have e12 : a.tmps.getD 12 undef = _ := hD.2.2.1
      have hK := kd W hK
      refine ⟨⟨_, e12, rfl⟩, ?_⟩
      (go_simp; with_reducible rfl)
    case o15 =>
      apply obl_val
      case hd => rfl
      intro a W hK hF hD
      have e12 : a.tmps.getD 12 undef = _ := hD.1
      have e19 : a.tmps.getD 19 undef = _ := hD.2.1
      have hK := kd W hK
      refine ⟨rfl, ?_⟩
      (go_simp; with_reducible rfl)
    case o16 =>
      apply obl_val
      case hd => rfl
      intro a W hK hF hD
      have e20 : a.tmps.getD 20 undef = _ := hD.1
      have e14 : a.tmps.getD 14 undef = _ := hD.2.1
      have hK := kd W hK
      refine ⟨rfl, ?_⟩
      (go_simp; with_reducible rfl)
    case o17 =>
      apply obl_val
      case hd => rfl
      intro a W hK hF hD
      have e21 : a.tmps.getD 21 undef = _ := hD.1
      have e0 : a.tmps.getD 0 undef = _ := hF.word 0 (by kernel_rfl)
      have hK := kd W hK
      refine ⟨⟨_, e21, rfl⟩, ?_⟩
      (go_simp; with_reducible rfl)
    case o18 =>
      apply obl_quiet
      case hd => rfl
      intro a W hK hF hD
      have e22 : a.tmps.getD 22 undef = _ := hD.1
      have e21 : a.tmps.getD 21 undef = _ := hD.2.1
      refine ⟨⟨_, e21, rfl⟩, ?_⟩
      apply enter_of
      case hr => (go_simp; first | exact ⟨rfl, rfl⟩ | rfl)
      case hc =>
        first
          | exact c101 W (kd W hK)
          | exact c102 W (kd W hK)
          | exact c57 W (kd W hK)
          | exact c64 W (kd W hK)
          | exact c103 W (kd W hK)
    case o19 =>
      apply obl_val
      case hd => rfl
      intro a W hK hF hD
      have e21 : a.tmps.getD 21 undef = _ := hD.1
      have e1 : a.tmps.getD 1 undef = _ := hF.word 1 (by kernel_rfl)
      have hK := kd W hK
      refine ⟨⟨_, e21, rfl⟩, ?_⟩
      (go_simp; with_reducible rfl)
    case o20 =>
      apply obl_val
      case hd => rfl
      intro a W hK hF hD
      have e24 : a.tmps.getD 24 undef = _ := hD.1
      have e21 : a.tmps.getD 21 undef = _ := hD.2.1
      have hK := kd W hK
      refine ⟨⟨_, e21, rfl⟩, ?_⟩
      (go_simp; with_reducible rfl)
    case o21 =>
      apply obl_val
      case hd => rfl
      intro a W hK hF hD
      have e25 : a.tmps.getD 25 undef = _ := hD.1
      have e21 : a.tmps.getD 21 undef = _ := hD.2.1
      have hK := kd W hK
      refine ⟨⟨_, e21, rfl⟩, ?_⟩
      (go_simp; with_reducible rfl)
    case o22 =>
      apply obl_val
      case hd => rfl
      intro a W hK hF hD
      have e26 : a.tmps.getD 26 undef = _ := hD.1
      have e21 : a.tmps.getD 21 undef = _ := hD.2.1
      have hK := kd W hK
      refine ⟨⟨_, e21, rfl⟩, ?_⟩
      (go_simp; with_reducible rfl)
    case o23 =>
      apply obl_val
      case hd => rfl
      intro a W hK hF hD
      have e23 : a.tmps.getD 23 undef = _ := hD.1
      have e27 : a.tmps.getD 27 undef = _ := hD.2.1
      have e21 : a.tmps.getD 21 undef = _ := hD.2.2.1
      have hK := kd W hK
      refine ⟨⟨_, e21, rfl⟩, ?_⟩
      (go_simp; with_reducible rfl)
    case o24 =>
      apply obl_val
      case hd => rfl
      intro a W hK hF hD
      have e21 : a.tmps.getD 21 undef = _ := hD.1
      have e28 : a.tmps.getD 28 undef = _ := hD.2.1
      have hK := kd W hK
      refine ⟨rfl, ?_⟩
      (go_simp; with_reducible rfl)
    case o25 =>
      apply obl_val
      case hd => rfl
      intro a W hK hF hD
      have e29 : a.tmps.getD 29 undef = _ := hD.1
      have e23 : a.tmps.getD 23 undef = _ := hD.2.1
      have hK := kd W hK
      refine ⟨rfl, ?_⟩
      (go_simp; with_reducible rfl)
    case o26 =>
      apply obl_val
      case hd => rfl
      intro a W hK hF hD
      have e30 : a.tmps.getD 30 undef = _ := hD.1
      have e0 : a.tmps.getD 0 undef = _ := hF.word 0 (by kernel_rfl)
      have hK := kd W hK
      refine ⟨⟨_, e30, rfl⟩, ?_⟩
      (go_simp; with_reducible rfl)
    case o27 =>
      apply obl_quiet
      case hd => rfl
      intro a W hK hF hD
      have e31 : a.tmps.getD 31 undef = _ := hD.1
      have e30 : a.tmps.getD 30 undef = _ := hD.2.1
      refine ⟨⟨_, e30, rfl⟩, ?_⟩
      apply enter_of
      case hr => (go_simp; first | exact ⟨rfl, rfl⟩ | rfl)
      case hc =>
        first
          | exact c101 W (kd W hK)
          | exact c102 W (kd W hK)
          | exact c57 W (kd W hK)
          | exact c64 W (kd W hK)
          | exact c103 W (kd W hK)
    case o28 =>
      apply obl_val
      case hd => rfl
      intro a W hK hF hD
      have e30 : a.tmps.getD 30 undef = _ := hD.1
      have e1 : a.tmps.getD 1 undef = _ := hF.word 1 (by kernel_rfl)
      have hK := kd W hK
      refine ⟨⟨_, e30, rfl⟩, ?_⟩
      (go_simp; with_reducible rfl)
    case o29 =>
      apply obl_val
      case hd => rfl
      intro a W hK hF hD
      have e33 : a.tmps.getD 33 undef = _ := hD.1
      have e30 : a.tmps.getD 30 undef = _ := hD.2.1
      have hK := kd W hK
      refine ⟨⟨_, e30, rfl⟩, ?_⟩
      (go_simp; with_reducible rfl)
    case o30 =>
      apply obl_val
      case hd => rfl
      intro a W hK hF hD
      have e34 : a.tmps.getD 34 undef = _ := hD.1
      have e30 : a.tmps.getD 30 undef = _ := hD.2.1
      have hK := kd W hK
      refine ⟨⟨_, e30, rfl⟩, ?_⟩
      (go_simp; with_reducible rfl)
    case o31 =>
      apply obl_val
      case hd => rfl
      intro a W hK hF hD
      have e35 : a.tmps.getD 35 undef = _ := hD.1
      have e30 : a.tmps.getD 30 undef = _ := hD.2.1
      have hK := kd W hK
      refine ⟨⟨_, e30, rfl⟩, ?_⟩
      (go_simp; with_reducible rfl)
    case o32 =>
      apply obl_val
      case hd => rfl
      intro a W hK hF hD
      have e32 : a.tmps.getD 32 undef = _ := hD.1
      have e36 : a.tmps.getD 36 undef = _ := hD.2.1
      have e30 : a.tmps.getD 30 undef = _ := hD.2.2.1
      have hK := kd W hK
      refine ⟨⟨_, e30, rfl⟩, ?_⟩
      (go_simp; with_reducible rfl)
    case o33 =>
      apply obl_val
      case hd => rfl
      intro a W hK hF hD
      have e30 : a.tmps.getD 30 undef = _ := hD.1
      have e37 : a.tmps.getD 37 undef = _ := hD.2.1
      have hK := kd W hK
      refine ⟨rfl, ?_⟩
      (go_simp; with_reducible rfl)
    case o34 =>
      apply obl_val
      case hd => rfl
      intro a W hK hF hD
      have e38 : a.tmps.getD 38 undef = _ := hD.1
      have e32 : a.tmps.getD 32 undef = _ := hD.2.1
      have hK := kd W hK
      refine ⟨rfl, ?_⟩
      (go_simp; with_reducible rfl)
    case o35 =>
      apply obl_val
      case hd => rfl
      intro a W hK hF hD
      have e39 : a.tmps.getD 39 undef = _ := hD.1
      have e0 : a.tmps.getD 0 undef = _ := hF.word 0 (by kernel_rfl)
      have hK := kd W hK
      refine ⟨⟨_, e39, rfl⟩, ?_⟩
      (go_simp; with_reducible rfl)
    case o36 =>
      apply obl_quiet
      case hd => rfl
      intro a W hK hF hD
      have e40 : a.tmps.getD 40 undef = _ := hD.1
      have e39 : a.tmps.getD 39 undef = _ := hD.2.1
      refine ⟨⟨_, e39, rfl⟩, ?_⟩
      apply enter_of
      case hr => (go_simp; first | exact ⟨rfl, rfl⟩ | rfl)
      case hc =>
        first
          | exact c101 W (kd W hK)
          | exact c102 W (kd W hK)
          | exact c57 W (kd W hK)
          | exact c64 W (kd W hK)
          | exact c103 W (kd W hK)
    case o37 =>
      apply obl_val
      case hd => rfl
      intro a W hK hF hD
      have e39 : a.tmps.getD 39 undef = _ := hD.1
      have e1 : a.tmps.getD 1 undef = _ := hF.word 1 (by kernel_rfl)
      have hK := kd W hK
      refine ⟨⟨_, e39, rfl⟩, ?_⟩
      (go_simp; with_reducible rfl)
    case o38 =>
      refine obl_call _ (fun W W' v k h => h.keep k (by simp)) rfl (fun a W hK hF hD => ?_)
      have e42 : a.tmps.getD 42 undef = _ := hD.1
      have e41 : a.tmps.getD 41 undef = _ := hD.2.1
      have e39 : a.tmps.getD 39 undef = _ := hD.2.2.1
      have hK := kd W hK
      refine ⟨⟨_, e39, rfl⟩, ?_⟩
      apply enter_of
      case hr => (go_simp; first | exact ⟨rfl, rfl⟩ | rfl)
      case hc => exact c105 W hK
    case o39 =>
      apply obl_val
      case hd => rfl
      intro a W hK hF hD
      have k38 : IR W _ (a.tmps.getD 43 undef) _ := hD.1
      have e39 : a.tmps.getD 39 undef = _ := hD.2.1
      obtain ⟨v43, e43⟩ : ∃ v, a.tmps.getD 43 undef = v := ⟨_, rfl⟩
      rw [e43] at k38
      have hl := k38.len W
      rw [hn2] at hl
      refine ⟨⟨_, e39, rfl⟩, ?_⟩
      (go_simp; with_reducible rfl)
    case o40 =>
      apply obl_val
      case hd => rfl
      intro a W hK hF hD
      have e44 : a.tmps.getD 44 undef = _ := hD.1
      have e39 : a.tmps.getD 39 undef = _ := hD.2.1
      have hK := kd W hK
      refine ⟨⟨_, e39, rfl⟩, ?_⟩
      (go_simp; with_reducible rfl)
    case o41 =>
      apply obl_val
      case hd => rfl
      intro a W hK hF hD
      have e41 : a.tmps.getD 41 undef = _ := hD.1
      have e45 : a.tmps.getD 45 undef = _ := hD.2.1
      have e39 : a.tmps.getD 39 undef = _ := hD.2.2.1
      have hK := kd W hK
      refine ⟨⟨_, e39, rfl⟩, ?_⟩
      (go_simp; with_reducible rfl)
    case o42 =>
      apply obl_val
      case hd => rfl
      intro a W hK hF hD
      have e39 : a.tmps.getD 39 undef = _ := hD.1
      have e46 : a.tmps.getD 46 undef = _ := hD.2.1
      have hK := kd W hK
      refine ⟨rfl, ?_⟩
      (go_simp; with_reducible rfl)
  case hQ =>
    intro a W hK hF hD
    have e5 : a.tmps.getD 5 undef = _ := hD.1
    have e6 : a.tmps.getD 6 undef = _ := hD.2.1
    have e7 : a.tmps.getD 7 undef = _ := hD.2.2.1
    have e8 : a.tmps.getD 8 undef = _ := hD.2.2.2.1
    have e9 : a.tmps.getD 9 undef = _ := hD.2.2.2.2.1
    have e10 : a.tmps.getD 10 undef = _ := hD.2.2.2.2.2.1
    have e11 : a.tmps.getD 11 undef = _ := hD.2.2.2.2.2.2.1
    have e12 : a.tmps.getD 12 undef = _ := hD.2.2.2.2.2.2.2.1
    have e13 : a.tmps.getD 13 undef = _ := hD.2.2.2.2.2.2.2.2.1
    have e14 : a.tmps.getD 14 undef = _ := hD.2.2.2.2.2.2.2.2.2.1
    have e15 : a.tmps.getD 15 undef = _ := hD.2.2.2.2.2.2.2.2.2.2.1
    have e16 : a.tmps.getD 16 undef = _ := hD.2.2.2.2.2.2.2.2.2.2.2.1
    have e17 : a.tmps.getD 17 undef = _ := hD.2.2.2.2.2.2.2.2.2.2.2.2.1
    have e18 : a.tmps.getD 18 undef = _ := hD.2.2.2.2.2.2.2.2.2.2.2.2.2.1
    have e19 : a.tmps.getD 19 undef = _ := hD.2.2.2.2.2.2.2.2.2.2.2.2.2.2.1
    have e20 : a.tmps.getD 20 undef = _ := hD.2.2.2.2.2.2.2.2.2.2.2.2.2.2.2.1
    have e21 : a.tmps.getD 21 undef = _ := hD.2.2.2.2.2.2.2.2.2.2.2.2.2.2.2.2.1
    have e22 : a.tmps.getD 22 undef = _ := hD.2.2.2.2.2.2.2.2.2.2.2.2.2.2.2.2.2.1
    have e23 : a.tmps.getD 23 undef = _ := hD.2.2.2.2.2.2.2.2.2.2.2.2.2.2.2.2.2.2.1
    have e24 : a.tmps.getD 24 undef = _ := hD.2.2.2.2.2.2.2.2.2.2.2.2.2.2.2.2.2.2.2.1
    have e25 : a.tmps.getD 25 undef = _ := hD.2.2.2.2.2.2.2.2.2.2.2.2.2.2.2.2.2.2.2.2.1
    have e26 : a.tmps.getD 26 undef = _ := hD.2.2.2.2.2.2.2.2.2.2.2.2.2.2.2.2.2.2.2.2.2.1
    have e27 : a.tmps.getD 27 undef = _ := hD.2.2.2.2.2.2.2.2.2.2.2.2.2.2.2.2.2.2.2.2.2.2.1
    have e28 : a.tmps.getD 28 undef = _ := hD.2.2.2.2.2.2.2.2.2.2.2.2.2.2.2.2.2.2.2.2.2.2.2.1
    have e29 : a.tmps.getD 29 undef = _ := hD.2.2.2.2.2.2.2.2.2.2.2.2.2.2.2.2.2.2.2.2.2.2.2.2.1
    have e30 : a.tmps.getD 30 undef = _ := hD.2.2.2.2.2.2.2.2.2.2.2.2.2.2.2.2.2.2.2.2.2.2.2.2.2.1
    have e31 : a.tmps.getD 31 undef = _ := hD.2.2.2.2.2.2.2.2.2.2.2.2.2.2.2.2.2.2.2.2.2.2.2.2.2.2.1
    have e32 : a.tmps.getD 32 undef = _ := hD.2.2.2.2.2.2.2.2.2.2.2.2.2.2.2.2.2.2.2.2.2.2.2.2.2.2.2.1
    have e33 : a.tmps.getD 33 undef = _ := hD.2.2.2.2.2.2.2.2.2.2.2.2.2.2.2.2.2.2.2.2.2.2.2.2.2.2.2.2.1
    have e34 : a.tmps.getD 34 undef = _ := hD.2.2.2.2.2.2.2.2.2.2.2.2.2.2.2.2.2.2.2.2.2.2.2.2.2.2.2.2.2.1
    have e35 : a.tmps.getD 35 undef = _ := hD.2.2.2.2.2.2.2.2.2.2.2.2.2.2.2.2.2.2.2.2.2.2.2.2.2.2.2.2.2.2.1
    have e36 : a.tmps.getD 36 undef = _ := hD.2.2.2.2.2.2.2.2.2.2.2.2.2.2.2.2.2.2.2.2.2.2.2.2.2.2.2.2.2.2.2.1
    have e37 : a.tmps.getD 37 undef = _ := hD.2.2.2.2.2.2.2.2.2.2.2.2.2.2.2.2.2.2.2.2.2.2.2.2.2.2.2.2.2.2.2.2.1
    have e38 : a.tmps.getD 38 undef = _ := hD.2.2.2.2.2.2.2.2.2.2.2.2.2.2.2.2.2.2.2.2.2.2.2.2.2.2.2.2.2.2.2.2.2.1
    have e39 : a.tmps.getD 39 undef = _ := hD.2.2.2.2.2.2.2.2.2.2.2.2.2.2.2.2.2.2.2.2.2.2.2.2.2.2.2.2.2.2.2.2.2.2.1
    have e40 : a.tmps.getD 40 undef = _ := hD.2.2.2.2.2.2.2.2.2.2.2.2.2.2.2.2.2.2.2.2.2.2.2.2.2.2.2.2.2.2.2.2.2.2.2.1
    have e41 : a.tmps.getD 41 undef = _ := hD.2.2.2.2.2.2.2.2.2.2.2.2.2.2.2.2.2.2.2.2.2.2.2.2.2.2.2.2.2.2.2.2.2.2.2.2.1
    have e42 : a.tmps.getD 42 undef = _ := hD.2.2.2.2.2.2.2.2.2.2.2.2.2.2.2.2.2.2.2.2.2.2.2.2.2.2.2.2.2.2.2.2.2.2.2.2.2.1
    obtain ⟨v43, e43⟩ : ∃ v, a.tmps.getD 43 undef = v := ⟨_, rfl⟩
    have e44 : a.tmps.getD 44 undef = _ := hD.2.2.2.2.2.2.2.2.2.2.2.2.2.2.2.2.2.2.2.2.2.2.2.2.2.2.2.2.2.2.2.2.2.2.2.2.2.2.2.1
    have e45 : a.tmps.getD 45 undef = _ := hD.2.2.2.2.2.2.2.2.2.2.2.2.2.2.2.2.2.2.2.2.2.2.2.2.2.2.2.2.2.2.2.2.2.2.2.2.2.2.2.2.1
    have e46 : a.tmps.getD 46 undef = _ := hD.2.2.2.2.2.2.2.2.2.2.2.2.2.2.2.2.2.2.2.2.2.2.2.2.2.2.2.2.2.2.2.2.2.2.2.2.2.2.2.2.2.1
    have e47 : a.tmps.getD 47 undef = _ := hD.2.2.2.2.2.2.2.2.2.2.2.2.2.2.2.2.2.2.2.2.2.2.2.2.2.2.2.2.2.2.2.2.2.2.2.2.2.2.2.2.2.2.1
    have e0 : a.tmps.getD 0 undef = _ := hF.word 0 (by kernel_rfl)
    have e1 : a.tmps.getD 1 undef = _ := hF.word 1 (by kernel_rfl)
    have e2 : a.tmps.getD 2 undef = _ := hF.word 2 (by kernel_rfl)
    have e3 : a.tmps.getD 3 undef = _ := hF.word 3 (by kernel_rfl)
    have e4 : a.tmps.getD 4 undef = _ := hF.word 4 (by kernel_rfl)
    have e48 : a.tmps.getD 48 undef = _ := hF.word 48 (by kernel_rfl)
    have e49 : a.tmps.getD 49 undef = _ := hF.word 49 (by kernel_rfl)
    have e50 : a.tmps.getD 50 undef = _ := hF.word 50 (by kernel_rfl)
    have e51 : a.tmps.getD 51 undef = _ := hF.word 51 (by kernel_rfl)
    have e52 : a.tmps.getD 52 undef = _ := hF.word 52 (by kernel_rfl)
    have e53 : a.tmps.getD 53 undef = _ := hF.word 53 (by kernel_rfl)
    have e54 : a.tmps.getD 54 undef = _ := hF.word 54 (by kernel_rfl)
    have e55 : a.tmps.getD 55 undef = _ := hF.word 55 (by kernel_rfl)
    have e56 : a.tmps.getD 56 undef = _ := hF.word 56 (by kernel_rfl)
    have e57 : a.tmps.getD 57 undef = _ := hF.word 57 (by kernel_rfl)
    have e58 : a.tmps.getD 58 undef = _ := hF.word 58 (by kernel_rfl)
    have e59 : a.tmps.getD 59 undef = _ := hF.word 59 (by kernel_rfl)
    have e60 : a.tmps.getD 60 undef = _ := hF.word 60 (by kernel_rfl)
    have e61 : a.tmps.getD 61 undef = _ := hF.word 61 (by kernel_rfl)
    have e62 : a.tmps.getD 62 undef = _ := hF.word 62 (by kernel_rfl)
    have ha := act_of (l := [_, _, _, _, _, _, _, _, _, _, _, _, _, _, _, _, _, _, _, _, _, _, _, _, _, _, _, _, _, _, _, _, _, _, _, _, _, _, _, _, _, _, _, _, _, _, _, _, _, _, _, _, _, _, _, _, _, _, _, _, _, _, _]) (by rw [hF.size]; rfl) hF.defers ⟨e0, e1, e2, e3, e4, e5, e6, e7, e8, e9, e10, e11, e12, e13, e14, e15, e16, e17, e18, e19, e20, e21, e22, e23, e24, e25, e26, e27, e28, e29, e30, e31, e32, e33, e34, e35, e36, e37, e38, e39, e40, e41, e42, e43, e44, e45, e46, e47, e48, e49, e50, e51, e52, e53, e54, e55, e56, e57, e58, e59, e60, e61, e62, trivial⟩
    clear hF hD e0 e1 e2 e3 e4 e5 e6 e7 e8 e9 e10 e11 e12 e13 e14 e15 e16 e17 e18 e19 e20 e21 e22 e23 e24 e25 e26 e27 e28 e29 e30 e31 e32 e33 e34 e35 e36 e37 e38 e39 e40 e41 e42 e43 e44 e45 e46 e47 e48 e49 e50 e51 e52 e53 e54 e55 e56 e57 e58 e59 e60 e61 e62
    subst ha
    have hKa := kd W hK
    clear hK kd
    have kd : ∀ W', Keep [] W.drew W' → Keep [] w W' := fun W' k => ((hKa.drew).trans k (by simp))
    rw [hcn]
    simp only [bne_self_eq_false]
    go_wp2
    apply wp_region_rel 63 [_, fun W v => CR W w.heap.size v s.l, _, _, _, _, _, _, _, fun W v => ∃ B1, v = .func (.func 183) #[] #[.pointer (some ⟨B1, 0, none⟩)] ∧ Blk W B1 [.pointer (some ⟨p, 0, none⟩)] 61, fun W v => IR W w.heap.size v (atts s.l), _, fun W v => IR W w.heap.size v (atts s.l), _, _, _] (by kernel_rfl) (by kernel_rfl) (Nat.le_refl _)
    case hO =>
      refine ⟨?o0, ?o1, ?o2, ?o3, ?o4, ?o5, ?o6, ?o7, ?o8, ?o9, ?o10, ?o11, ?o12, ?o13, ?o14, ?o15, trivial⟩
      case o0 =>
        apply obl_val
        case hd => rfl
        intro a W hK hF hD
        have e0 : a.tmps.getD 0 undef = _ := hF.word 0 (by kernel_rfl)
        have hK := kd W hK
        refine ⟨rfl, ?_⟩
        (go_simp; with_reducible rfl)
      case o1 =>
        refine obl_call _ (fun W W' v k h => h.keep k) rfl (fun a W hK hF hD => ?_)
        have e48 : a.tmps.getD 48 undef = _ := hD.1
        have hK := kd W hK
        refine ⟨rfl, ?_⟩
        apply enter_of
        case hr => (go_simp; first | exact ⟨rfl, rfl⟩ | rfl)
        case hc => exact c100 W hK
      case o2 =>
        apply obl_val
        case hd => rfl
        intro a W hK hF hD
        have e1 : a.tmps.getD 1 undef = _ := hF.word 1 (by kernel_rfl)
        have hK := kd W hK
        refine ⟨rfl, ?_⟩
        (go_simp; with_reducible rfl)
      case o3 =>
        apply obl_val
        case hd => rfl
        intro a W hK hF hD
        have e50 : a.tmps.getD 50 undef = _ := hD.1
        have hK := kd W hK
        refine ⟨rfl, ?_⟩
        (go_simp; with_reducible rfl)
      case o4 =>
        apply obl_val
        case hd => rfl
        intro a W hK hF hD
        have e51 : a.tmps.getD 51 undef = _ := hD.1
        have hK := kd W hK
        refine ⟨rfl, ?_⟩
        (go_simp; with_reducible rfl)
      case o5 =>
        apply obl_val
        case hd => rfl
        intro a W hK hF hD
        have e52 : a.tmps.getD 52 undef = _ := hD.1
        have hK := kd W hK
        refine ⟨rfl, ?_⟩
        (go_simp; with_reducible rfl)
      case o6 =>
        apply obl_quiet
        case hd => rfl
        intro a W hK hF hD
        have k1 := hD.1
        have e53 : a.tmps.getD 53 undef = _ := hD.2.1
        have hK := kd W hK
        have k1 : CR W _ (a.tmps.getD 49 undef) _ := hD.1
        obtain ⟨v49, e49⟩ : ∃ v, a.tmps.getD 49 undef = v := ⟨_, rfl⟩
        rw [e49] at k1
        refine ⟨rfl, ?_⟩
        apply enter_of
        case hr => (go_simp; first | exact ⟨rfl, rfl⟩ | rfl)
        case hc => exact c106 W _ hK k1
      case o7 =>
        apply obl_val
        case hd => rfl
        intro a W hK hF hD
        have e54 : a.tmps.getD 54 undef = _ := hD.1
        have hK := kd W hK
        refine ⟨rfl, ?_⟩
        (go_simp; with_reducible rfl)
      case o8 =>
        apply obl_val
        case hd => rfl
        intro a W hK hF hD
        have e55 : a.tmps.getD 55 undef = _ := hD.1
        have e0 : a.tmps.getD 0 undef = _ := hF.word 0 (by kernel_rfl)
        have hK := kd W hK
        refine ⟨⟨_, e55, rfl⟩, ?_⟩
        (go_simp; with_reducible rfl)
      case o9 =>
        refine obl_call _ (fun W W' v k h => let ⟨B1, e, hb⟩ := h; ⟨B1, e, hb.keep k (by simp)⟩) rfl (fun a W hK hF hD => ?_)
        have e56 : a.tmps.getD 56 undef = _ := hD.1
        have e55 : a.tmps.getD 55 undef = _ := hD.2.1
        have hK := kd W hK
        refine ⟨⟨_, e55, rfl⟩, ?_⟩
        apply enter_of
        case hr => (go_simp; first | exact ⟨rfl, rfl⟩ | rfl)
        case hc => exact c158 W hK
      case o10 =>
        refine obl_call _ (fun W W' v k h => h.keep k (by simp)) rfl (fun a W hK hF hD => ?_)
        have k9 := hD.1
        have e55 : a.tmps.getD 55 undef = _ := hD.2.2.1
        have hK := kd W hK
        obtain ⟨B1, e57, hB1⟩ : ∃ B1, a.tmps.getD 57 undef = .func (.func 183) #[] #[.pointer (some ⟨B1, 0, none⟩)] ∧ Blk W B1 [.pointer (some ⟨p, 0, none⟩)] 61 := hD.1
        refine ⟨⟨_, e55, rfl⟩, ?_⟩
        apply enter_of
        case hr => (go_simp; first | exact ⟨rfl, rfl⟩ | rfl)
        case hc => exact c79 W B1 hK hB1
      case o11 =>
        apply obl_val
        case hd => rfl
        intro a W hK hF hD
        have e55 : a.tmps.getD 55 undef = _ := hD.1
        have e1 : a.tmps.getD 1 undef = _ := hF.word 1 (by kernel_rfl)
        have hK := kd W hK
        refine ⟨⟨_, e55, rfl⟩, ?_⟩
        (go_simp; with_reducible rfl)
      case o12 =>
        refine obl_call _ (fun W W' v k h => h.keep k (by simp)) rfl (fun a W hK hF hD => ?_)
        have e59 : a.tmps.getD 59 undef = _ := hD.1
        have k10 := hD.2.1
        have e55 : a.tmps.getD 55 undef = _ := hD.2.2.1
        have hK := kd W hK
        refine ⟨⟨_, e55, rfl⟩, ?_⟩
        apply enter_of
        case hr => (go_simp; first | exact ⟨rfl, rfl⟩ | rfl)
        case hc => exact c105 W hK
      case o13 =>
        apply obl_quiet
        case hd => rfl
        intro a W hK hF hD
        have k10 := hD.1
        have k12 := hD.2.1
        have e55 : a.tmps.getD 55 undef = _ := hD.2.2.2.1
        have hK := kd W hK
        have k10 : IR W _ (a.tmps.getD 58 undef) _ := hD.1
        have k12 : IR W _ (a.tmps.getD 60 undef) _ := hD.2.1
        obtain ⟨v58, e58⟩ : ∃ v, a.tmps.getD 58 undef = v := ⟨_, rfl⟩
        obtain ⟨v60, e60⟩ : ∃ v, a.tmps.getD 60 undef = v := ⟨_, rfl⟩
        rw [e58] at k10
        rw [e60] at k12
        refine ⟨⟨_, e55, rfl⟩, ?_⟩
        apply enter_of
        case hr => (go_simp; first | exact ⟨rfl, rfl⟩ | rfl)
        case hc => exact c78 W _ _ hK k10 k12
      case o14 =>
        apply obl_val
        case hd => rfl
        intro a W hK hF hD
        have e55 : a.tmps.getD 55 undef = _ := hD.1
        have e61 : a.tmps.getD 61 undef = _ := hD.2.1
        have hK := kd W hK
        refine ⟨rfl, ?_⟩
        (go_simp; with_reducible rfl)
      case o15 =>
        apply obl_val
        case hd => rfl
        intro a W hK hF hD
        have e62 : a.tmps.getD 62 undef = _ := hD.1
        have e61 : a.tmps.getD 61 undef = _ := hD.2.1
        have e48 : a.tmps.getD 48 undef = _ := hD.2.2.1
        have k1 := hD.2.2.2.1
        have e50 : a.tmps.getD 50 undef = _ := hD.2.2.2.2.1
        have e51 : a.tmps.getD 51 undef = _ := hD.2.2.2.2.2.1
        have e52 : a.tmps.getD 52 undef = _ := hD.2.2.2.2.2.2.1
        have e53 : a.tmps.getD 53 undef = _ := hD.2.2.2.2.2.2.2.1
        have e54 : a.tmps.getD 54 undef = _ := hD.2.2.2.2.2.2.2.2.1
        have e55 : a.tmps.getD 55 undef = _ := hD.2.2.2.2.2.2.2.2.2.1
        have e56 : a.tmps.getD 56 undef = _ := hD.2.2.2.2.2.2.2.2.2.2.1
        have k9 := hD.2.2.2.2.2.2.2.2.2.2.2.1
        have k10 := hD.2.2.2.2.2.2.2.2.2.2.2.2.1
        have e59 : a.tmps.getD 59 undef = _ := hD.2.2.2.2.2.2.2.2.2.2.2.2.2.1
        have k12 := hD.2.2.2.2.2.2.2.2.2.2.2.2.2.2.1
        have hK := kd W hK
        refine ⟨rfl, ?_⟩
        (go_simp; with_reducible rfl)
    case hQ =>
      intro a W hK hF hD
      have e48 : a.tmps.getD 48 undef = _ := hD.1
      obtain ⟨v49, e49⟩ : ∃ v, a.tmps.getD 49 undef = v := ⟨_, rfl⟩
      have e50 : a.tmps.getD 50 undef = _ := hD.2.2.1
      have e51 : a.tmps.getD 51 undef = _ := hD.2.2.2.1
      have e52 : a.tmps.getD 52 undef = _ := hD.2.2.2.2.1
      have e53 : a.tmps.getD 53 undef = _ := hD.2.2.2.2.2.1
      have e54 : a.tmps.getD 54 undef = _ := hD.2.2.2.2.2.2.1
      have e55 : a.tmps.getD 55 undef = _ := hD.2.2.2.2.2.2.2.1
      have e56 : a.tmps.getD 56 undef = _ := hD.2.2.2.2.2.2.2.2.1
      obtain ⟨v57, e57⟩ : ∃ v, a.tmps.getD 57 undef = v := ⟨_, rfl⟩
      obtain ⟨v58, e58⟩ : ∃ v, a.tmps.getD 58 undef = v := ⟨_, rfl⟩
      have e59 : a.tmps.getD 59 undef = _ := hD.2.2.2.2.2.2.2.2.2.2.2.1
      obtain ⟨v60, e60⟩ : ∃ v, a.tmps.getD 60 undef = v := ⟨_, rfl⟩
      have e61 : a.tmps.getD 61 undef = _ := hD.2.2.2.2.2.2.2.2.2.2.2.2.2.1
      have e62 : a.tmps.getD 62 undef = _ := hD.2.2.2.2.2.2.2.2.2.2.2.2.2.2.1
      have e4 : a.tmps.getD 4 undef = _ := hD.2.2.2.2.2.2.2.2.2.2.2.2.2.2.2.1
      have e0 : a.tmps.getD 0 undef = _ := hF.word 0 (by kernel_rfl)
      have e1 : a.tmps.getD 1 undef = _ := hF.word 1 (by kernel_rfl)
      have e2 : a.tmps.getD 2 undef = _ := hF.word 2 (by kernel_rfl)
      have e3 : a.tmps.getD 3 undef = _ := hF.word 3 (by kernel_rfl)
      have e5 : a.tmps.getD 5 undef = _ := hF.word 5 (by kernel_rfl)
      have e6 : a.tmps.getD 6 undef = _ := hF.word 6 (by kernel_rfl)
      have e7 : a.tmps.getD 7 undef = _ := hF.word 7 (by kernel_rfl)
      have e8 : a.tmps.getD 8 undef = _ := hF.word 8 (by kernel_rfl)
      have e9 : a.tmps.getD 9 undef = _ := hF.word 9 (by kernel_rfl)
      have e10 : a.tmps.getD 10 undef = _ := hF.word 10 (by kernel_rfl)
      have e11 : a.tmps.getD 11 undef = _ := hF.word 11 (by kernel_rfl)
      have e12 : a.tmps.getD 12 undef = _ := hF.word 12 (by kernel_rfl)
      have e13 : a.tmps.getD 13 undef = _ := hF.word 13 (by kernel_rfl)
      have e14 : a.tmps.getD 14 undef = _ := hF.word 14 (by kernel_rfl)
      have e15 : a.tmps.getD 15 undef = _ := hF.word 15 (by kernel_rfl)
      have e16 : a.tmps.getD 16 undef = _ := hF.word 16 (by kernel_rfl)
      have e17 : a.tmps.getD 17 undef = _ := hF.word 17 (by kernel_rfl)
      have e18 : a.tmps.getD 18 undef = _ := hF.word 18 (by kernel_rfl)
      have e19 : a.tmps.getD 19 undef = _ := hF.word 19 (by kernel_rfl)
      have e20 : a.tmps.getD 20 undef = _ := hF.word 20 (by kernel_rfl)
      have e21 : a.tmps.getD 21 undef = _ := hF.word 21 (by kernel_rfl)
      have e22 : a.tmps.getD 22 undef = _ := hF.word 22 (by kernel_rfl)
      have e23 : a.tmps.getD 23 undef = _ := hF.word 23 (by kernel_rfl)
      have e24 : a.tmps.getD 24 undef = _ := hF.word 24 (by kernel_rfl)
      have e25 : a.tmps.getD 25 undef = _ := hF.word 25 (by kernel_rfl)
      have e26 : a.tmps.getD 26 undef = _ := hF.word 26 (by kernel_rfl)
      have e27 : a.tmps.getD 27 undef = _ := hF.word 27 (by kernel_rfl)
      have e28 : a.tmps.getD 28 undef = _ := hF.word 28 (by kernel_rfl)
      have e29 : a.tmps.getD 29 undef = _ := hF.word 29 (by kernel_rfl)
      have e30 : a.tmps.getD 30 undef = _ := hF.word 30 (by kernel_rfl)
      have e31 : a.tmps.getD 31 undef = _ := hF.word 31 (by kernel_rfl)
      have e32 : a.tmps.getD 32 undef = _ := hF.word 32 (by kernel_rfl)
      have e33 : a.tmps.getD 33 undef = _ := hF.word 33 (by kernel_rfl)
      have e34 : a.tmps.getD 34 undef = _ := hF.word 34 (by kernel_rfl)
      have e35 : a.tmps.getD 35 undef = _ := hF.word 35 (by kernel_rfl)
      have e36 : a.tmps.getD 36 undef = _ := hF.word 36 (by kernel_rfl)
      have e37 : a.tmps.getD 37 undef = _ := hF.word 37 (by kernel_rfl)
      have e38 : a.tmps.getD 38 undef = _ := hF.word 38 (by kernel_rfl)
      have e39 : a.tmps.getD 39 undef = _ := hF.word 39 (by kernel_rfl)
      have e40 : a.tmps.getD 40 undef = _ := hF.word 40 (by kernel_rfl)
      have e41 : a.tmps.getD 41 undef = _ := hF.word 41 (by kernel_rfl)
      have e42 : a.tmps.getD 42 undef = _ := hF.word 42 (by kernel_rfl)
      have e43 : a.tmps.getD 43 undef = _ := hF.word 43 (by kernel_rfl)
      have e44 : a.tmps.getD 44 undef = _ := hF.word 44 (by kernel_rfl)
      have e45 : a.tmps.getD 45 undef = _ := hF.word 45 (by kernel_rfl)
      have e46 : a.tmps.getD 46 undef = _ := hF.word 46 (by kernel_rfl)
      have e47 : a.tmps.getD 47 undef = _ := hF.word 47 (by kernel_rfl)
      have ha := act_of (l := [_, _, _, _, _, _, _, _, _, _, _, _, _, _, _, _, _, _, _, _, _, _, _, _, _, _, _, _, _, _, _, _, _, _, _, _, _, _, _, _, _, _, _, _, _, _, _, _, _, _, _, _, _, _, _, _, _, _, _, _, _, _, _]) (by rw [hF.size]; rfl) hF.defers ⟨e0, e1, e2, e3, e4, e5, e6, e7, e8, e9, e10, e11, e12, e13, e14, e15, e16, e17, e18, e19, e20, e21, e22, e23, e24, e25, e26, e27, e28, e29, e30, e31, e32, e33, e34, e35, e36, e37, e38, e39, e40, e41, e42, e43, e44, e45, e46, e47, e48, e49, e50, e51, e52, e53, e54, e55, e56, e57, e58, e59, e60, e61, e62, trivial⟩
      clear hF hD e0 e1 e2 e3 e4 e5 e6 e7 e8 e9 e10 e11 e12 e13 e14 e15 e16 e17 e18 e19 e20 e21 e22 e23 e24 e25 e26 e27 e28 e29 e30 e31 e32 e33 e34 e35 e36 e37 e38 e39 e40 e41 e42 e43 e44 e45 e46 e47 e48 e49 e50 e51 e52 e53 e54 e55 e56 e57 e58 e59 e60 e61 e62
      subst ha
      have hKb := kd W hK
      clear hK kd
      go_wp2
      go_ret
      exact ⟨rfl, hKb.below⟩

end Go.Proofs.Ytangandfgbnomaa.V
