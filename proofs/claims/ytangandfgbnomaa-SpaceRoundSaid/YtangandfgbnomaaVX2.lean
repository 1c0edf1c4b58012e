/- Walks of slices.Equal of cells, and of Space.Same. -/
import Derived.Test.YtangandfgbnomaaVX1
namespace Go.Proofs.Ytangandfgbnomaa.V
open Go.RowKit Go.Proofs.YtangandfgbnomaaW.PrintWords Go.Proofs.YtangandfgbnomaaW.PrintLast Go.Proofs.YtangandfgbnomaaW.PrintMore
set_option linter.unusedVariables false
set_option linter.unusedSimpArgs false

/-- Two cells alike. -/
def C.eqb (a c : C) : Bool := if a.ch = c.ch then if a.at_ = c.at_ then if a.fa = c.fa then if a.hi = c.hi then if a.co = c.co then if a.se = c.se then true else false else false else false else false else false else false
theorem C.eqb_iff (a c : C) : a.eqb c = true ↔ a = c := by
  obtain ⟨a0, a1, a2, a3, a4, a5⟩ := a
  obtain ⟨c0, c1, c2, c3, c4, c5⟩ := c
  unfold C.eqb
  constructor
  · intro h
    repeat' (split at h)
    all_goals simp_all
  · intro h
    simp only [C.mk.injEq] at h
    obtain ⟨rfl, rfl, rfl, rfl, rfl, rfl⟩ := h
    simp
theorem C.eqb_self (a : C) : a.eqb a = true := (C.eqb_iff a a).2 rfl

theorem cell_ne (a0 a2 a3 a4 a5 c0 c2 c3 c4 c5 : Int) (a1 c1 : Bool) (W : World) : Sem.run Try.prog (binOp .neq 60 (.agg #[.int .u8 a0, .bool a1, .int .u8 a2, .int .u8 a3, .int .u8 a4, .int .u8 a5]) (.agg #[.int .u8 c0, .bool c1, .int .u8 c2, .int .u8 c3, .int .u8 c4, .int .u8 c5])) W = .ok (.bool (!(C.eqb ⟨a0, a1, a2, a3, a4, a5⟩ ⟨c0, c1, c2, c3, c4, c5⟩))) W := by
  have hu := Try.underlying60
  have hu5 := Try.underlying5
  have hu4 := Try.underlying4
  go_simp
  unfold C.eqb
  repeat' split
  all_goals simp_all
theorem cell_eq (a0 a2 a3 a4 a5 c0 c2 c3 c4 c5 : Int) (a1 c1 : Bool) (W : World) : Sem.run Try.prog (binOp .eql 60 (.agg #[.int .u8 a0, .bool a1, .int .u8 a2, .int .u8 a3, .int .u8 a4, .int .u8 a5]) (.agg #[.int .u8 c0, .bool c1, .int .u8 c2, .int .u8 c3, .int .u8 c4, .int .u8 c5])) W = .ok (.bool (C.eqb ⟨a0, a1, a2, a3, a4, a5⟩ ⟨c0, c1, c2, c3, c4, c5⟩)) W := by
  have hu := Try.underlying60
  have hu5 := Try.underlying5
  have hu4 := Try.underlying4
  go_simp
  unfold C.eqb
  repeat' split
  all_goals simp_all

theorem cell_neC (a c : C) (W : World) : Sem.run Try.prog (binOp .neq 60 (.agg #[.int .u8 a.ch, .bool a.at_, .int .u8 a.fa, .int .u8 a.hi, .int .u8 a.co, .int .u8 a.se]) (.agg #[.int .u8 c.ch, .bool c.at_, .int .u8 c.fa, .int .u8 c.hi, .int .u8 c.co, .int .u8 c.se])) W = .ok (.bool (!(a.eqb c))) W := cell_ne _ _ _ _ _ _ _ _ _ _ _ _ W
theorem cell_eqC (a c : C) (W : World) : Sem.run Try.prog (binOp .eql 60 (.agg #[.int .u8 a.ch, .bool a.at_, .int .u8 a.fa, .int .u8 a.hi, .int .u8 a.co, .int .u8 a.se]) (.agg #[.int .u8 c.ch, .bool c.at_, .int .u8 c.fa, .int .u8 c.hi, .int .u8 c.co, .int .u8 c.se])) W = .ok (.bool (a.eqb c)) W := cell_eq _ _ _ _ _ _ _ _ _ _ _ _ W

/-- Two rows of cells alike. -/
def leq : List C → List C → Bool
  | [], [] => true
  | a :: l, c :: m => a.eqb c && leq l m
  | _, _ => false
theorem leq_iff : ∀ l m : List C, leq l m = true ↔ l = m
  | [], [] => by simp [leq]
  | [], _ :: _ => by simp [leq]
  | _ :: _, [] => by simp [leq]
  | a :: l, c :: m => by simp [leq, C.eqb_iff, leq_iff l m]
theorem leq_length {l m : List C} (h : l.length ≠ m.length) : leq l m = false := by
  cases e : leq l m
  · rfl
  · exact absurd (congrArg List.length ((leq_iff l m).1 e)) h
theorem leq_step {l m : List C} {i : Nat} (h1 : i < l.length) (h2 : i < m.length) : leq (l.drop i) (m.drop i) = ((l.getD i C.zero).eqb (m.getD i C.zero) && leq (l.drop (i + 1)) (m.drop (i + 1))) := by
  rw [List.drop_eq_getElem_cons h1, List.drop_eq_getElem_cons h2, List.getD_eq_getElem?_getD, List.getD_eq_getElem?_getD, List.getElem?_eq_getElem h1, List.getElem?_eq_getElem h2]
  rfl

theorem six_rules {w : World} {b : Nat} {l : List C} {ex : List Value} (h : Blk w b (flat l ++ ex) 60) (i : Nat) (hi : i < l.length) (c : C) (hc : l.getD i C.zero = c) :
    (∀ W, Keep [] w W → W.cell? ⟨b, i * 6, none⟩ = some (.int .u8 c.ch)) ∧ (∀ W, Keep [] w W → W.cell? ⟨b, i * 6 + 1, none⟩ = some (.bool c.at_)) ∧
    (∀ W, Keep [] w W → W.cell? ⟨b, i * 6 + 2, none⟩ = some (.int .u8 c.fa)) ∧ (∀ W, Keep [] w W → W.cell? ⟨b, i * 6 + 3, none⟩ = some (.int .u8 c.hi)) ∧
    (∀ W, Keep [] w W → W.cell? ⟨b, i * 6 + 4, none⟩ = some (.int .u8 c.co)) ∧ (∀ W, Keep [] w W → W.cell? ⟨b, i * 6 + 5, none⟩ = some (.int .u8 c.se)) := by
  rw [Nat.mul_comm i 6]
  subst hc
  have g : ∀ W, Keep [] w W → _ := fun W k => six_cells (h.keep k (by simp)) i hi
  exact ⟨fun W k => (g W k).1, fun W k => (g W k).2.1, fun W k => (g W k).2.2.1, fun W k => (g W k).2.2.2.1, fun W k => (g W k).2.2.2.2.1, fun W k => (g W k).2.2.2.2.2⟩

set_option maxRecDepth 100000 in
set_option maxHeartbeats 2000000 in
theorem equal_calls {w : World} {b d : Nat} {l m : List C} {ex ex2 : List Value} (cap cap2 : Nat) (h : Blk w b (flat l ++ ex) 60) (h2 : Blk w d (flat m ++ ex2) 60) (hl : l.length ≤ 3564) (hm : m.length ≤ 3564) :
    Calls Try.prog 106 #[.slice (some ⟨b, 0, none⟩) l.length cap, .slice (some ⟨d, 0, none⟩) m.length cap2] w fun e w' => e = .returned (.bool (leq l m)) ∧ Below w.heap.size w w' := by
  have H := Aside0.mk h
  have H2 := Aside0.mk h2
  by_cases hn : l.length = m.length
  · have hnn : ((l.length : Int) != (m.length : Int)) = false := by simp [hn]
    have HN := Aside0.mk hn
    clear hn h h2
    go_enter Try.func106, Try.ntmps106
    go_wp2
    go_loopg [13] l.length (fun kq v w' => ∃ i : Nat, v = .int .i64 i ∧ Aside0 (kq = l.length - i ∧ i ≤ l.length) ∧ Aside0 (leq l m = leq (l.drop i) (m.drop i)) ∧ Aside0 (Keep [] w w'))
    case atStart => exact ⟨0, rfl, ⟨rfl, Nat.zero_le _⟩, ⟨rfl⟩, ⟨Keep.refl _ _⟩⟩
    case round =>
      obtain ⟨i, rfl, HI, HL, HK⟩ := hrel
      obtain ⟨hi1, hi2⟩ := HI.out
      by_cases hc : (i : Int) < (l.length : Int)
      · have hcb : decide ((i : Int) < (l.length : Int)) = true := decide_eq_true hc
        have hil : i < l.length := by omega
        have him : i < m.length := by have := HN.out; omega
        have him' : (i : Int) < (m.length : Int) := by omega
        have hi0 : (0 : Int) ≤ (i : Int) := by omega
        have st := Aside0.mk (leq_step hil him)
        obtain ⟨c1, hc1⟩ : ∃ c, l.getD i C.zero = c := ⟨_, rfl⟩
        obtain ⟨c2, hc2⟩ : ∃ c, m.getD i C.zero = c := ⟨_, rfl⟩
        obtain ⟨x0, x1, x2, x3, x4, x5⟩ := six_rules (H.out.keep HK.out (by simp)) i hil c1 hc1
        obtain ⟨y0, y1, y2, y3, y4, y5⟩ := six_rules (H2.out.keep HK.out (by simp)) i him c2 hc2
        have hne := cell_neC c1 c2
        obtain ⟨q, hq⟩ : ∃ q, c1.eqb c2 = q := ⟨_, rfl⟩
        rw [hq] at hne
        have we1 : wrap64 ((i : Int) + 1) = ((i + 1 : Nat) : Int) := by unfold wrap64; omega
        have WE1 := Aside0.mk we1
        rw [hc1, hc2, hq] at st
        clear we1 hc1 hc2 hq
        have K0 : Keep [] wr wr.drew := (Keep.refl [] wr).drew
        go_wp2_with fail
        refine wp_quiet_all (K := fun W => Keep [] wr W) (by kernel_rfl) (by kernel_rfl) K0 ?_
        repeat (first
          | go_big_quiet_skip
          | (go_big_quiet_want; first
              | (go_big_quiet_op; first
                  | go_big_quiet_on)
              | (apply quiet_of
                 · (intro W hW
                    go_simp
                    with_reducible rfl)
                 simp only [Act.put, List.setIfInBounds_toArray, List.set_cons_zero, List.set_cons_succ]
                 go_big_quiet_on)))
        refine wpQuiet_nil ?_
        intro W2 k2
        clear K0
        cases q
        · go_wp2
          go_ret
          have e : leq l m = false := by rw [HL.out, st.out]; rfl
          exact ⟨by first | exact e | (rw [e]; done) | (simp [e]; done), (HK.out.trans k2 (by simp)).below⟩
        · go_wp2
          go_roundg (l.length - (i + 1))
          case measure => omega
          case rel => exact ⟨i + 1, by first | rfl | (rw [WE1.out]), ⟨rfl, by omega⟩, ⟨by rw [HL.out, st.out]; rfl⟩, ⟨HK.out.trans k2 (by simp)⟩⟩
      · have hcb : decide ((i : Int) < (l.length : Int)) = false := decide_eq_false hc
        go_wp2
        go_ret
        have hn := HN.out
        have e : leq l m = true := by rw [HL.out, List.drop_eq_nil_of_le (by omega), List.drop_eq_nil_of_le (by omega)]; rfl
        exact ⟨by first | exact e | (rw [e]; done) | (simp [e]; done), HK.out.below⟩
  · have hnn : ((l.length : Int) != (m.length : Int)) = true := by simp; omega
    rw [leq_length hn]
    clear h h2 hn
    go_enter Try.func106, Try.ntmps106
    go_wp2
    go_ret
    exact ⟨rfl, Below.refl _ _⟩

end Go.Proofs.Ytangandfgbnomaa.V
