/- Rows of numbers that a call makes; the walk of the reference's Attrs. -/
import Derived.Test.YtangandfgbnomaaVX
import Derived.Test.YtangandfgbnomaaVN
namespace Go.Proofs.Ytangandfgbnomaa.V
open Go.RowKit
set_option linter.unusedVariables false
set_option linter.unusedSimpArgs false

theorem info3' : (Try.prog.info? 3).map (fun i => (i.zero, i.size, i.bytes)) = some (some (.int .i64 0), 1, 8) := by kernel_rfl

/-- A row of numbers that was made at or above a height; nil where it is empty. -/
def IR (w : World) (base : Nat) (v : Value) (l : List Int) : Prop := w.ownsRow base 3 1 v l.length (l.map (Value.int .i64)) ∧ (l = [] → v = .slice none 0 0)
theorem IR.nil (w : World) (base : Nat) : IR w base (.slice none 0 0) [] := ⟨⟨rfl, .inl ⟨rfl, rfl⟩⟩, fun _ => rfl⟩
theorem IR.keep {R : List Nat} {w w' : World} {base : Nat} {v : Value} {l : List Int} (h : IR w base v l) (k : Keep R w w') (hr : ∀ x ∈ R, x < base) : IR w' base v l := by
  refine ⟨⟨h.1.1, ?_⟩, h.2⟩
  rcases h.1.2 with h0 | ⟨g, cap, cur, e, hg, hh, h1, h2, h3, h4⟩
  · exact .inl h0
  · exact .inr ⟨g, cap, cur, e, hg, k.heap hh (fun hx => by have := hr g hx; omega), h1, h2, h3, h4⟩
theorem IR.below {w w' : World} {base : Nat} {v : Value} {l : List Int} (h : IR w base v l) (k : Below w.heap.size w w') : IR w' base v l := h.keep (Keep.of_below k []) (by simp)
theorem IR.alloc {w : World} {base : Nat} {v : Value} {l : List Int} (h : IR w base v l) (o : Obj) : IR (w.alloc o) base v l := h.below ((Below.refl _ w).alloc (Nat.le_refl _) o)
theorem IR.lower {w : World} {base base' : Nat} {v : Value} {l : List Int} (h : IR w base v l) (hb : base' ≤ base) : IR w base' v l := by
  refine ⟨⟨h.1.1, ?_⟩, h.2⟩
  rcases h.1.2 with h0 | ⟨g, cap, cur, e, hg, h1⟩
  · exact .inl h0
  · exact .inr ⟨g, cap, cur, e, by omega, h1⟩
theorem IR.shape {w : World} {base : Nat} {v : Value} {l : List Int} (h : IR w base v l) : (v = .slice none 0 0 ∧ l = []) ∨ (l ≠ [] ∧ ∃ g cap, v = .slice (some ⟨g, 0, none⟩) l.length cap ∧ base ≤ g ∧ g < w.heap.size ∧ l.length ≤ maxLen ∧ ∀ i, i < l.length → w.cell? ⟨g, i, none⟩ = some (.int .i64 (l.getD i 0))) := by
  by_cases hl : l = []
  · exact .inl ⟨h.2 hl, hl⟩
  rcases h.1.2 with ⟨h0, h1⟩ | ⟨g, cap, cur, e, hg, hh, h1, h2, h3, h4⟩
  · exact .inl ⟨h0, List.length_eq_zero_iff.1 h1⟩
  · refine .inr ⟨hl, g, cap, e, hg, (Array.getElem?_eq_some_iff.1 hh).1, Nat.le_trans h1 h2, fun i hi => ?_⟩
    unfold World.cell?
    rw [hh]
    have e2 : cur.toList[i]? = some (.int .i64 (l.getD i 0)) := by
      have : (cur.toList.take (l.length * 1))[i]? = cur.toList[i]? := List.getElem?_take_of_lt (by omega)
      rw [← this, h4, List.getElem?_map, List.getElem?_eq_getElem hi, List.getD_eq_getElem?_getD, List.getElem?_eq_getElem hi]; rfl
    simpa using e2

theorem one_news {W : World} {g : Nat} {x : Value} {t : TypeId} (h : Blk W g [x] t) : ∀ j u, [x][j]? = some u → W.cell? (Addr.add ⟨g, 0, none⟩ j) = some u := by
  intro j u hu
  have hj : j = 0 := by have := (List.getElem?_eq_some_iff.1 hu).1; simpa using this
  subst hj
  have := h.cell 0
  rw [show Addr.add ⟨g, 0, none⟩ 0 = ⟨g, 0, none⟩ from rfl, this]; exact hu
theorem IR.push {W : World} {base : Nat} {v : Value} {l : List Int} {x : Int} (h : W.ownsRow base 3 1 v (l.length + 1) (l.map (Value.int .i64) ++ [.int .i64 x])) : IR W base v (l ++ [x]) := by
  refine ⟨?_, fun e => by simp at e⟩
  rw [List.length_append, List.map_append]; exact h
theorem grown_keep {w w' : World} {base : Nat} {v : Value} {l : List Int} (h : IR w base v l) (k : w.grownBy w' v.ownBlock) {w0 : World} (hk : Keep [] w0 w) (hb : w0.heap.size ≤ base) : Keep [] w0 w' := by
  obtain ⟨g1, g2, g3, g4, g5⟩ := k
  rcases h.1.2 with ⟨rfl, _⟩ | ⟨g, cap, cur, rfl, hg, _⟩
  · exact hk.trans (R' := []) ⟨g1, g2, g3, g4, fun k hk _ => g5 k hk (by simp [Value.ownBlock])⟩ (by simp)
  · refine hk.trans (R' := [g]) ⟨g1, g2, g3, g4, fun k hk hne => g5 k hk ?_⟩ (fun x hx => .inr (by simp at hx; omega))
    intro e2
    simp only [Value.ownBlock, Option.some.injEq] at e2
    exact hne (by simp [e2])

set_option maxRecDepth 100000 in
set_option maxHeartbeats 4000000 in
theorem rattrs_calls {w : World} {p b : Nat} {s : S} (h : RSp w p b s) (hl : s.l.length ≤ 3564) :
    Calls Try.prog 105 #[.pointer (some ⟨p, 0, none⟩)] w fun e w' => ∃ v, e = .returned v ∧ IR w' w.heap.size v (atts s.l) ∧ Below w.heap.size w w' := by
  obtain ⟨i0, hi, hz0, hz1, hz2⟩ := info_parts info3'
  obtain ⟨cap, ex, hcap, g1, g2⟩ := h
  have plt := g1.lt
  have r4 := g1.cell 4
  simp at r4
  have G2 := Aside0.mk g2
  clear g1 g2
  go_enter Try.func105, Try.ntmps105
  go_wp2_with fail
  go_loopg [3, 11] s.l.length (fun kq v3 v w' => ∃ i : Nat, v = .int .i64 i ∧ Aside0 (kq = s.l.length - i ∧ i ≤ s.l.length) ∧ Aside0 (IR w' w.heap.size v3 (attsTo s.l i)) ∧ Aside0 (Keep [] w w'))
  case atStart => exact ⟨0, rfl, ⟨rfl, Nat.zero_le _⟩, ⟨IR.nil _ _⟩, ⟨Keep.refl _ _⟩⟩
  case round =>
    obtain ⟨i, rfl, HI, HV, HK⟩ := hrel
    obtain ⟨hi1, hi2⟩ := HI.out
    by_cases hc : (i : Int) < (s.l.length : Int)
    · have hcb : decide ((i : Int) < (s.l.length : Int)) = true := decide_eq_true hc
      have hil : i < s.l.length := by omega
      have hi0 : (0 : Int) ≤ (i : Int) := by omega
      obtain ⟨cj, hcj2⟩ : ∃ c, s.l.getD i C.zero = c := ⟨_, rfl⟩
      obtain ⟨x0, x1, x2, x3, x4, x5⟩ := six_rules (G2.out.keep HK.out (by simp)) i hil cj hcj2
      have K0 : Keep [] wr wr := Keep.refl _ _
      have y0 := x0 _ K0
      have y1 := x1 _ K0
      have y2 := x2 _ K0
      have y3 := x3 _ K0
      have y4 := x4 _ K0
      have y5 := x5 _ K0
      have hst := attsTo_succ s.l i
      rw [hcj2] at hst
      obtain ⟨qa, hqa⟩ : ∃ qa, cj.at_ = qa := ⟨_, rfl⟩
      rw [hqa] at y1 hst
      have hlen := attsTo_length s.l i
      have ST := Aside0.mk hst
      have hwe1 : wrap64 ((i : Int) + 1) = ((i + 1 : Nat) : Int) := by unfold wrap64; omega
      have WEi := Aside0.mk hwe1
      have CJ := Aside0.mk hcj2
      clear x0 x1 x2 x3 x4 x5 K0 hst hwe1 hcj2 hqa
      cases qa
      · go_wp2
        go_roundg (s.l.length - (i + 1))
        case measure => omega
        case rel =>
          refine ⟨i + 1, by first | rfl | (rw [WEi.out]), ⟨rfl, by omega⟩, ⟨?_⟩, ⟨HK.out.alloc _⟩⟩
          rw [ST.out]
          simpa using HV.out.alloc _
      · have hks := HK.out.size
        have HS2 := Aside0.mk hks
        have HV2 := Aside0.mk ((HV.out.alloc (.cells #[.int .u8 cj.ch, .bool true, .int .u8 cj.fa, .int .u8 cj.hi, .int .u8 cj.co, .int .u8 cj.se] 60)).alloc (.cells #[.int .i64 i] 3))
        have NB := Aside0.mk (Blk.new2 wr (.cells #[.int .u8 cj.ch, .bool true, .int .u8 cj.fa, .int .u8 cj.hi, .int .u8 cj.co, .int .u8 cj.se] 60) [.int .i64 i] 3)
        clear hks
        go_wp2_with (at_builtin; go_loud (refine wpList_append_own _ rfl _ _ 79 rfl w.heap.size 3 i0 _ 1 8 Try.underlying79 hi hz0 hz1 hz2 rfl (by decide) _ (attsTo s.l i).length ((attsTo s.l i).map (Value.int .i64)) (by go_simp) HV2.out.1 ⟨wr.heap.size + 1, 0, none⟩ 1 1 [.int .i64 i] (by go_simp) rfl (one_news NB.out) (by simp [Value.oneCell']) (by unfold maxLen; omega) (by omega) (by rw [World.size_alloc2]; have := HS2.out; omega) ?_)
                     intro v' w' hown hgrow hnn)
        go_roundg (s.l.length - (i + 1))
        case measure => omega
        case rel =>
          refine ⟨i + 1, by first | rfl | (rw [WEi.out]), ⟨rfl, by omega⟩, ⟨?_⟩, ⟨grown_keep HV2.out hgrow ((HK.out.alloc _).alloc _) (Nat.le_refl _)⟩⟩
          rw [ST.out, if_pos trivial]
          exact IR.push hown
    · have hcb : decide ((i : Int) < (s.l.length : Int)) = false := decide_eq_false hc
      have hie : i = s.l.length := by omega
      have hv := HV.out
      rw [hie] at hv
      go_wp2
      go_ret
      exact ⟨_, rfl, hv, HK.out.below⟩

end Go.Proofs.Ytangandfgbnomaa.V
