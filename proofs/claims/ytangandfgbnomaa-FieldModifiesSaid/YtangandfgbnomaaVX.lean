/- Walks of slices.Clone of cells, and of Space.Copy. Walks of slices.Equal of cells, and of Space.Same. The walk of Space.Same. Raw arguments opened: a cell by value, a row of acts. -/
import Derived.Test.YtangandfgbnomaaVU
import Derived.Deep.Slices
import Derived.WalkKit
import Derived.ProofKit
import Derived.OpenShut
import Derived.ChangeOld
import Derived.SizedLaws
import Derived.Lib.SmallJoins
namespace Go.Proofs.Ytangandfgbnomaa.V
open Go.RowKit
set_option linter.unusedVariables false
set_option linter.unusedSimpArgs false

theorem flat_one (l : List C) : ∀ u ∈ flat l, u.oneCell' = true := by
  intro u hu
  unfold flat at hu
  obtain ⟨c, _, hc⟩ := List.mem_flatMap.1 hu
  simp only [C.vs, List.mem_cons, List.not_mem_nil, or_false] at hc
  rcases hc with rfl | rfl | rfl | rfl | rfl | rfl <;> rfl

theorem slice_nil96 : ∀ (a : Addr) (n c : Nat) (w : World), Sem.run Try.prog (binOp .eql 96 (.slice (some a) n c) (.slice none 0 0)) w = .ok (.bool false) w := fun _ _ _ _ => by kernel_rfl

set_option maxRecDepth 100000 in
set_option maxHeartbeats 2000000 in
theorem clone_calls {w : World} {b : Nat} {l : List C} {ex : List Value} (cap : Nat) (h : Blk w b (flat l ++ ex) 60) (hl : 1 ≤ l.length ∧ l.length ≤ 3564) :
    Calls Try.prog 151 #[.slice (some ⟨b, 0, none⟩) l.length cap] w fun e w' => ∃ b' cap' ex', e = .returned (.slice (some ⟨b', 0, none⟩) l.length cap') ∧ w.heap.size ≤ b' ∧ l.length ≤ cap' ∧ Blk w' b' (flat l ++ ex') 60 ∧ Below w.heap.size w w' := by
  obtain ⟨i0, hi, hz0, hz1, hz2⟩ := info_parts info60
  have hfl := flat_length l
  have H := Aside0.mk h
  have own0 : (w.alloc (.cells #[] 60)).ownsRow w.heap.size 60 6 (.slice (some ⟨w.heap.size, 0, none⟩) 0 0) 0 [] :=
    ⟨rfl, .inr ⟨w.heap.size, 0, #[], rfl, Nat.le_refl _, by have := Blk.new w [] 60; exact this, Nat.le_refl _, Nat.zero_le _, rfl, rfl⟩⟩
  have OWN := Aside0.mk own0
  clear own0
  have hnil := slice_nil96
  go_enter Try.func151, Try.ntmps151
  have hNews : ∀ j u, (flat l)[j]? = some u → (w.alloc (.cells #[] 60)).cell? (Addr.add ⟨b, 0, none⟩ j) = some u := by
    intro j u hu
    have := (H.out.alloc (.cells #[] 60)).cell j
    rw [List.getElem?_append_left (by have := (List.getElem?_eq_some_iff.1 hu).1; exact this), hu] at this
    have e : Addr.add ⟨b, 0, none⟩ j = ⟨b, j, none⟩ := by simp only [Addr.add, Nat.zero_add]; split <;> simp_all
    rw [e]; exact this
  have HN := Aside0.mk hNews
  clear hNews
  have hsz1 : (w.alloc (.cells #[] 60)).heap.size = w.heap.size + 1 := Array.size_push ..
  have HZ1 := Aside0.mk hsz1
  clear hsz1
  go_wp2_with (at_builtin; go_loud (refine wpList_append_own (w.alloc (.cells #[] 60)) rfl _ _ 96 rfl w.heap.size 60 i0 _ 6 6 Try.underlying96 hi hz0 hz1 hz2 rfl (by decide) _ 0 [] (by go_simp) OWN.out ⟨b, 0, none⟩ l.length cap (flat l) (by go_simp) (by omega) HN.out (flat_one l) (by unfold maxLen; omega) (by omega) (by have := HZ1.out; omega) ?_)
               intro v' w' hown hgrow hnn)
  have hbel : Below w.heap.size w w' := by
    obtain ⟨g1, g2, g3, g4, g5⟩ := hgrow
    have e := HZ1.out
    refine Keep.below (((Keep.refl [] w).alloc (.cells #[] 60)).trans (R' := [w.heap.size]) ⟨g1, g2, g3, g4, fun k hk hne => g5 k hk ?_⟩ (fun x hx => .inr (by simp at hx; omega)))
    intro e2
    simp only [Value.ownBlock, Option.some.injEq] at e2
    exact hne (by simp [e2])
  rcases hown.2 with ⟨_, e⟩ | ⟨g, cap', cur, rfl, hg, hh, hn, _, hs, ht⟩
  · omega
  · rw [Nat.zero_add] at *
    go_ret
    refine ⟨g, cap', cur.toList.drop (l.length * 6), rfl, hg, hn, ?_, hbel⟩
    unfold Blk
    rw [hh]
    simp only [List.nil_append] at ht
    rw [← ht, List.take_append_drop]

theorem ptr_nil61 : ∀ (a : Addr) (w : World), Sem.run Try.prog (binOp .eql 61 (.pointer (some a)) (.pointer none)) w = .ok (.bool false) w := fun _ _ => by kernel_rfl

set_option maxRecDepth 100000 in
set_option maxHeartbeats 2000000 in
theorem copy_calls {w : World} {p b : Nat} {s : S} (h : PSp w p b s) (ok : s.ok) :
    Calls Try.prog 61 #[.pointer (some ⟨p, 0, none⟩)] w fun e w' => ∃ p' b', e = .returned (.pointer (some ⟨p', 0, none⟩)) ∧ w.heap.size ≤ p' ∧ w.heap.size ≤ b' ∧ PSp w' p' b' s ∧ Below w.heap.size w w' := by
  have hp := h
  obtain ⟨cap, ex, hcap, h1, h2⟩ := h
  have plt := h1.lt
  have hl : 1 ≤ s.l.length ∧ s.l.length ≤ 3564 := by obtain ⟨_, _, a, b⟩ := S.ok.ix ok 0; exact ⟨b, a⟩
  have f0 := h1.cell 0
  have f1 := h1.cell 1
  have f2 := h1.cell 2
  have f3 := h1.cell 3
  have f4 := h1.cell 4
  have f5 := h1.cell 5
  have f6 := h1.cell 6
  have ff := h1.frozen
  simp at f0 f1 f2 f3 f4 f5 f6
  have HC := Aside0.mk (clone_calls cap (h2.alloc (.cells #[.int .i64 s.model, .bool s.alt, .int .i64 s.r, .int .i64 s.c, .slice (some ⟨b, 0, none⟩) s.l.length cap, .int .i64 s.cur, .int .i64 (cnt s.l)] 155)) hl)
  go_enter Try.func61, Try.ntmps61
  go_wp2_with (go_at_call 151; go_loud (with_reducible refine HC.out.mono ?_); rintro e w1 ⟨b', cap', ex', rfl, hb', hc', hB, hbel⟩
               have G := (Blk.new w [.int .i64 s.model, .bool s.alt, .int .i64 s.r, .int .i64 s.c, .slice (some ⟨b, 0, none⟩) s.l.length cap, .int .i64 s.cur, .int .i64 (cnt s.l)] 155).call hbel
               have g4 := G.cell 4
               have gf := G.frozen
               have gl := G.lt
               go_loud (simp at g4))
  go_ret
  have hsz1 : ∀ o, (w.alloc o).heap.size = w.heap.size + 1 := fun o => Array.size_push ..
  rw [hsz1] at hb'
  refine ⟨_, b', rfl, Nat.le_refl _, by omega, ⟨cap', ex', hc', ?_, ?_⟩, ?_⟩
  · exact G.set 4 _
  · exact hB.other (p := ⟨w.heap.size, 4, none⟩) (by simp only; omega) _
  · exact Keep.below ((((Keep.refl [] w).alloc _).call hbel).setCell (p := ⟨w.heap.size, 4, none⟩) (.inr (Nat.le_refl _)) _)

end Go.Proofs.Ytangandfgbnomaa.V

namespace Go.Proofs.Ytangandfgbnomaa.V
open Go.RowKit
set_option linter.unusedVariables false
set_option linter.unusedSimpArgs false

/-- Two cells alike. -/
def C.eqb (a c : C) : Bool := if a.ch = c.ch then if a.at_ = c.at_ then if a.fa = c.fa then if a.hi = c.hi then if a.co = c.co then if a.se = c.se then true else false else false else false else false else false else false
theorem C.eqb_iff (a c : C) : a.eqb c = true ↔ a = c := by
  obtain ⟨a0, a1, a2, a3, a4, a5⟩ := a
  obtain ⟨c0, c1, c2, c3, c4, c5⟩ := c
  unfold C.eqb
  constructor
  · intro h
    repeat' (split at h)
    all_goals simp_all
  · intro h
    simp only [C.mk.injEq] at h
    obtain ⟨rfl, rfl, rfl, rfl, rfl, rfl⟩ := h
    simp
theorem C.eqb_self (a : C) : a.eqb a = true := (C.eqb_iff a a).2 rfl

theorem cell_ne (a0 a2 a3 a4 a5 c0 c2 c3 c4 c5 : Int) (a1 c1 : Bool) (W : World) : Sem.run Try.prog (binOp .neq 60 (.agg #[.int .u8 a0, .bool a1, .int .u8 a2, .int .u8 a3, .int .u8 a4, .int .u8 a5]) (.agg #[.int .u8 c0, .bool c1, .int .u8 c2, .int .u8 c3, .int .u8 c4, .int .u8 c5])) W = .ok (.bool (!(C.eqb ⟨a0, a1, a2, a3, a4, a5⟩ ⟨c0, c1, c2, c3, c4, c5⟩))) W := by
  have hu := Try.underlying60
  have hu5 := Try.underlying5
  have hu4 := Try.underlying4
  go_simp
  unfold C.eqb
  repeat' split
  all_goals simp_all
theorem cell_eq (a0 a2 a3 a4 a5 c0 c2 c3 c4 c5 : Int) (a1 c1 : Bool) (W : World) : Sem.run Try.prog (binOp .eql 60 (.agg #[.int .u8 a0, .bool a1, .int .u8 a2, .int .u8 a3, .int .u8 a4, .int .u8 a5]) (.agg #[.int .u8 c0, .bool c1, .int .u8 c2, .int .u8 c3, .int .u8 c4, .int .u8 c5])) W = .ok (.bool (C.eqb ⟨a0, a1, a2, a3, a4, a5⟩ ⟨c0, c1, c2, c3, c4, c5⟩)) W := by
  have hu := Try.underlying60
  have hu5 := Try.underlying5
  have hu4 := Try.underlying4
  go_simp
  unfold C.eqb
  repeat' split
  all_goals simp_all

theorem cell_neC (a c : C) (W : World) : Sem.run Try.prog (binOp .neq 60 (.agg #[.int .u8 a.ch, .bool a.at_, .int .u8 a.fa, .int .u8 a.hi, .int .u8 a.co, .int .u8 a.se]) (.agg #[.int .u8 c.ch, .bool c.at_, .int .u8 c.fa, .int .u8 c.hi, .int .u8 c.co, .int .u8 c.se])) W = .ok (.bool (!(a.eqb c))) W := cell_ne _ _ _ _ _ _ _ _ _ _ _ _ W
theorem cell_eqC (a c : C) (W : World) : Sem.run Try.prog (binOp .eql 60 (.agg #[.int .u8 a.ch, .bool a.at_, .int .u8 a.fa, .int .u8 a.hi, .int .u8 a.co, .int .u8 a.se]) (.agg #[.int .u8 c.ch, .bool c.at_, .int .u8 c.fa, .int .u8 c.hi, .int .u8 c.co, .int .u8 c.se])) W = .ok (.bool (a.eqb c)) W := cell_eq _ _ _ _ _ _ _ _ _ _ _ _ W

/-- Two rows of cells alike. -/
def leq : List C → List C → Bool
  | [], [] => true
  | a :: l, c :: m => a.eqb c && leq l m
  | _, _ => false
theorem leq_iff : ∀ l m : List C, leq l m = true ↔ l = m
  | [], [] => by simp [leq]
  | [], _ :: _ => by simp [leq]
  | _ :: _, [] => by simp [leq]
  | a :: l, c :: m => by simp [leq, C.eqb_iff, leq_iff l m]
theorem leq_length {l m : List C} (h : l.length ≠ m.length) : leq l m = false := by
  cases e : leq l m
  · rfl
  · exact absurd (congrArg List.length ((leq_iff l m).1 e)) h
theorem leq_step {l m : List C} {i : Nat} (h1 : i < l.length) (h2 : i < m.length) : leq (l.drop i) (m.drop i) = ((l.getD i C.zero).eqb (m.getD i C.zero) && leq (l.drop (i + 1)) (m.drop (i + 1))) := by
  rw [List.drop_eq_getElem_cons h1, List.drop_eq_getElem_cons h2, List.getD_eq_getElem?_getD, List.getD_eq_getElem?_getD, List.getElem?_eq_getElem h1, List.getElem?_eq_getElem h2]
  rfl

theorem six_rules {w : World} {b : Nat} {l : List C} {ex : List Value} (h : Blk w b (flat l ++ ex) 60) (i : Nat) (hi : i < l.length) (c : C) (hc : l.getD i C.zero = c) :
    (∀ W, Keep [] w W → W.cell? ⟨b, i * 6, none⟩ = some (.int .u8 c.ch)) ∧ (∀ W, Keep [] w W → W.cell? ⟨b, i * 6 + 1, none⟩ = some (.bool c.at_)) ∧
    (∀ W, Keep [] w W → W.cell? ⟨b, i * 6 + 2, none⟩ = some (.int .u8 c.fa)) ∧ (∀ W, Keep [] w W → W.cell? ⟨b, i * 6 + 3, none⟩ = some (.int .u8 c.hi)) ∧
    (∀ W, Keep [] w W → W.cell? ⟨b, i * 6 + 4, none⟩ = some (.int .u8 c.co)) ∧ (∀ W, Keep [] w W → W.cell? ⟨b, i * 6 + 5, none⟩ = some (.int .u8 c.se)) := by
  rw [Nat.mul_comm i 6]
  subst hc
  have g : ∀ W, Keep [] w W → _ := fun W k => six_cells (h.keep k (by simp)) i hi
  exact ⟨fun W k => (g W k).1, fun W k => (g W k).2.1, fun W k => (g W k).2.2.1, fun W k => (g W k).2.2.2.1, fun W k => (g W k).2.2.2.2.1, fun W k => (g W k).2.2.2.2.2⟩

set_option maxRecDepth 100000 in
set_option maxHeartbeats 2000000 in
theorem equal_calls {w : World} {b d : Nat} {l m : List C} {ex ex2 : List Value} (cap cap2 : Nat) (h : Blk w b (flat l ++ ex) 60) (h2 : Blk w d (flat m ++ ex2) 60) (hl : l.length ≤ 3564) (hm : m.length ≤ 3564) :
    Calls Try.prog 106 #[.slice (some ⟨b, 0, none⟩) l.length cap, .slice (some ⟨d, 0, none⟩) m.length cap2] w fun e w' => e = .returned (.bool (leq l m)) ∧ Below w.heap.size w w' := by
  have H := Aside0.mk h
  have H2 := Aside0.mk h2
  by_cases hn : l.length = m.length
  · have hnn : ((l.length : Int) != (m.length : Int)) = false := by simp [hn]
    have HN := Aside0.mk hn
    clear hn h h2
    go_enter Try.func106, Try.ntmps106
    go_wp2
    go_loopg [13] l.length (fun kq v w' => ∃ i : Nat, v = .int .i64 i ∧ Aside0 (kq = l.length - i ∧ i ≤ l.length) ∧ Aside0 (leq l m = leq (l.drop i) (m.drop i)) ∧ Aside0 (Keep [] w w'))
    case atStart => exact ⟨0, rfl, ⟨rfl, Nat.zero_le _⟩, ⟨rfl⟩, ⟨Keep.refl _ _⟩⟩
    case round =>
      obtain ⟨i, rfl, HI, HL, HK⟩ := hrel
      obtain ⟨hi1, hi2⟩ := HI.out
      by_cases hc : (i : Int) < (l.length : Int)
      · have hcb : decide ((i : Int) < (l.length : Int)) = true := decide_eq_true hc
        have hil : i < l.length := by omega
        have him : i < m.length := by have := HN.out; omega
        have him' : (i : Int) < (m.length : Int) := by omega
        have hi0 : (0 : Int) ≤ (i : Int) := by omega
        have st := Aside0.mk (leq_step hil him)
        obtain ⟨c1, hc1⟩ : ∃ c, l.getD i C.zero = c := ⟨_, rfl⟩
        obtain ⟨c2, hc2⟩ : ∃ c, m.getD i C.zero = c := ⟨_, rfl⟩
        obtain ⟨x0, x1, x2, x3, x4, x5⟩ := six_rules (H.out.keep HK.out (by simp)) i hil c1 hc1
        obtain ⟨y0, y1, y2, y3, y4, y5⟩ := six_rules (H2.out.keep HK.out (by simp)) i him c2 hc2
        have hne := cell_neC c1 c2
        obtain ⟨q, hq⟩ : ∃ q, c1.eqb c2 = q := ⟨_, rfl⟩
        rw [hq] at hne
        have we1 : wrap64 ((i : Int) + 1) = ((i + 1 : Nat) : Int) := by unfold wrap64; omega
        have WE1 := Aside0.mk we1
        rw [hc1, hc2, hq] at st
        clear we1 hc1 hc2 hq
        have K0 : Keep [] wr wr.drew := (Keep.refl [] wr).drew
        go_wp2_with fail
        refine wp_quiet_all (K := fun W => Keep [] wr W) (by kernel_rfl) (by kernel_rfl) K0 ?_
        repeat (first
          | go_big_quiet_skip
          | (go_big_quiet_want; first
              | (go_big_quiet_op; first
                  | go_big_quiet_on)
              | (apply quiet_of
                 · (intro W hW
                    go_simp
                    with_reducible rfl)
                 simp only [Act.put, List.setIfInBounds_toArray, List.set_cons_zero, List.set_cons_succ]
                 go_big_quiet_on)))
        refine wpQuiet_nil ?_
        intro W2 k2
        clear K0
        cases q
        · go_wp2
          go_ret
          have e : leq l m = false := by rw [HL.out, st.out]; rfl
          exact ⟨by first | exact e | (rw [e]; done) | (simp [e]; done), (HK.out.trans k2 (by simp)).below⟩
        · go_wp2
          go_roundg (l.length - (i + 1))
          case measure => omega
          case rel => exact ⟨i + 1, by first | rfl | (rw [WE1.out]), ⟨rfl, by omega⟩, ⟨by rw [HL.out, st.out]; rfl⟩, ⟨HK.out.trans k2 (by simp)⟩⟩
      · have hcb : decide ((i : Int) < (l.length : Int)) = false := decide_eq_false hc
        go_wp2
        go_ret
        have hn := HN.out
        have e : leq l m = true := by rw [HL.out, List.drop_eq_nil_of_le (by omega), List.drop_eq_nil_of_le (by omega)]; rfl
        exact ⟨by first | exact e | (rw [e]; done) | (simp [e]; done), HK.out.below⟩
  · have hnn : ((l.length : Int) != (m.length : Int)) = true := by simp; omega
    rw [leq_length hn]
    clear h h2 hn
    go_enter Try.func106, Try.ntmps106
    go_wp2
    go_ret
    exact ⟨rfl, Below.refl _ _⟩

end Go.Proofs.Ytangandfgbnomaa.V

namespace Go.Proofs.Ytangandfgbnomaa.V
open Go.RowKit
set_option linter.unusedVariables false
set_option linter.unusedSimpArgs false

/-- Two spaces are alike. -/
def S.eqb (s o : S) : Bool := s.model == o.model && (s.alt == o.alt && (s.cur == o.cur && leq s.l o.l))

set_option maxRecDepth 100000 in
set_option maxHeartbeats 4000000 in
theorem same_walk {w : World} {p b q d : Nat} {s o : S} (h : PSp w p b s) (h2 : PSp w q d o) (hl : s.l.length ≤ 3564) (hm : o.l.length ≤ 3564) (q1 q2 q3 : Bool) (e1 : (s.model == o.model) = q1) (e2 : (s.alt == o.alt) = q2) (e3 : (s.cur == o.cur) = q3) :
    Calls Try.prog 66 #[.pointer (some ⟨p, 0, none⟩), .pointer (some ⟨q, 0, none⟩)] w fun e w' => e = .returned (.bool (q1 && (q2 && (q3 && leq s.l o.l)))) ∧ Below w.heap.size w w' := by
  obtain ⟨cap, ex, hcap, g1, g2⟩ := h
  obtain ⟨cap2, ex2, hcap2, f1, f2⟩ := h2
  have plt := g1.lt
  have qlt := f1.lt
  have G : ∀ j, ∀ W, Keep [] w W → W.cell? ⟨p, j, none⟩ = _ := fun j W k => (g1.keep k (by simp)).cell j
  have F : ∀ j, ∀ W, Keep [] w W → W.cell? ⟨q, j, none⟩ = _ := fun j W k => (f1.keep k (by simp)).cell j
  have G0 := G 0
  have G1 := G 1
  have G4 := G 4
  have G5 := G 5
  have F0 := F 0
  have F1 := F 1
  have F4 := F 4
  have F5 := F 5
  clear G F
  simp at G0 G1 G4 G5 F0 F1 F4 F5
  have hE : ∀ W, Keep [] w W → Calls Try.prog 106 #[.slice (some ⟨b, 0, none⟩) s.l.length cap, .slice (some ⟨d, 0, none⟩) o.l.length cap2] W fun e w' => e = .returned (.bool (leq s.l o.l)) ∧ Below W.heap.size W w' := fun W k => equal_calls cap cap2 (g2.keep k (by simp)) (f2.keep k (by simp)) hl hm
  have K0 : Keep [] w w.drew := (Keep.refl [] w).drew
  generalize leq s.l o.l = q4 at *
  clear g1 g2 f1 f2 hcap hcap2
  have hnil := ptr_nil61
  cases q1
  all_goals cases q2
  all_goals cases q3
  all_goals
    go_enter Try.func66, Try.ntmps66
    go_wp2_with fail
    refine wp_quiet_all (K := fun W => Keep [] w W) (by kernel_rfl) (by kernel_rfl) K0 ?_
    repeat (first
      | go_big_quiet_skip
      | (go_big_quiet_want; first
          | (go_big_quiet_op; first
              | go_big_quiet_on
              | (go_big_quiet_call ((intro hW; first
                  | exact Calls.mono (hE _ hW) (fun e W' h => ⟨h.1, hW.call h.2⟩)))))
          | (apply quiet_of
             · (intro W hW
                go_simp
                with_reducible rfl)
             simp only [Act.put, List.setIfInBounds_toArray, List.set_cons_zero, List.set_cons_succ]
             go_big_quiet_on)))
    refine wpQuiet_nil ?_
    intro W2 k2
    clear K0
    go_wp2
    go_ret
    exact ⟨rfl, k2.below⟩

theorem same_calls {w : World} {p b q d : Nat} {s o : S} (h : PSp w p b s) (h2 : PSp w q d o) (hl : s.l.length ≤ 3564) (hm : o.l.length ≤ 3564) :
    Calls Try.prog 66 #[.pointer (some ⟨p, 0, none⟩), .pointer (some ⟨q, 0, none⟩)] w fun e w' => e = .returned (.bool (s.eqb o)) ∧ Below w.heap.size w w' := same_walk h h2 hl hm _ _ _ rfl rfl rfl
theorem S.eqb_self (s : S) : s.eqb s = true := by
  have : leq s.l s.l = true := (leq_iff _ _).2 rfl
  simp [S.eqb, this]

end Go.Proofs.Ytangandfgbnomaa.V

namespace Go.Proofs.Ytangandfgbnomaa.V
open Go.ChangeShapes Go.WideShapes Go.ChangeAt Go.Joins Go.Deep Go.RowKit
set_option linter.unusedVariables false
set_option linter.unusedSimpArgs false

theorem Keep.cell {w W : World} (k : Keep [] w W) {x : Addr} {v : Value} (h : w.cell? x = some v) : W.cell? x = some v := by
  unfold World.cell? at h ⊢
  split at h
  · rename_i c e f hx
    rw [k.heap hx (by simp)]
    exact h
  · cases h

/-- A row of acts in memory, whatever is done to other memory. -/
def Acts (w : World) (ta : Option Addr) (us : List Ac) : Prop :=
  (∀ a ∈ us, a.fine) ∧ ∀ i, (hi : i < us.length) → ∃ (x : Addr) (tt : Option Addr) (cap : Nat), ta = some x ∧ ∀ W, Keep [] w W → TxRow W tt us[i].tx ∧
    W.cell? (x.add (i * 11)) = some (.int .u8 us[i].d) ∧ W.cell? ⟨(x.add (i * 11)).block, (x.add (i * 11)).off + 1, none⟩ = some (.int .i64 us[i].n) ∧ W.cell? ⟨(x.add (i * 11)).block, (x.add (i * 11)).off + 2, none⟩ = some (.bool us[i].on) ∧ W.cell? ⟨(x.add (i * 11)).block, (x.add (i * 11)).off + 3, none⟩ = some (.int .u8 us[i].code) ∧
    W.cell? ⟨(x.add (i * 11)).block, (x.add (i * 11)).off + 4, none⟩ = some (.int .u8 us[i].c.ch) ∧ W.cell? ⟨(x.add (i * 11)).block, (x.add (i * 11)).off + 5, none⟩ = some (.bool us[i].c.at_) ∧ W.cell? ⟨(x.add (i * 11)).block, (x.add (i * 11)).off + 6, none⟩ = some (.int .u8 us[i].c.fa) ∧ W.cell? ⟨(x.add (i * 11)).block, (x.add (i * 11)).off + 7, none⟩ = some (.int .u8 us[i].c.hi) ∧
    W.cell? ⟨(x.add (i * 11)).block, (x.add (i * 11)).off + 8, none⟩ = some (.int .u8 us[i].c.co) ∧ W.cell? ⟨(x.add (i * 11)).block, (x.add (i * 11)).off + 9, none⟩ = some (.int .u8 us[i].c.se) ∧ W.cell? ⟨(x.add (i * 11)).block, (x.add (i * 11)).off + 10, none⟩ = some (.slice tt us[i].tx.length cap)

theorem wf_u8 {n : Int} (h : (Lit.int .u8 n).wf = true) : 0 ≤ n ∧ n < 256 := by
  simp [Lit.wf, IntKind.min, IntKind.max, IntKind.bits, IntKind.signed] at h; omega

theorem Acts.keep {w W : World} {ta : Option Addr} {us : List Ac} (h : Acts w ta us) (k : Keep [] w W) : Acts W ta us :=
  ⟨h.1, fun i hi => by obtain ⟨x, tt, cap, e, f⟩ := h.2 i hi; exact ⟨x, tt, cap, e, fun V hV => f V (k.trans hV (by simp))⟩⟩

section
variable {H : Type} {enc : TypeId × Value → H} {w : World} {base : Nat} {held : Bool}

theorem list11 {cs : List Value} (h : cs.length = 11) : ∃ c0 c1 c2 c3 c4 c5 c6 c7 c8 c9 c10, cs = [c0, c1, c2, c3, c4, c5, c6, c7, c8, c9, c10] := by
  match cs, h with
  | [c0, c1, c2, c3, c4, c5, c6, c7, c8, c9, c10], _ => exact ⟨_, _, _, _, _, _, _, _, _, _, _, rfl⟩
theorem list6 {cs : List Value} (h : cs.length = 6) : ∃ c0 c1 c2 c3 c4 c5, cs = [c0, c1, c2, c3, c4, c5] := by
  match cs, h with
  | [c0, c1, c2, c3, c4, c5], _ => exact ⟨_, _, _, _, _, _, rfl⟩

set_option maxRecDepth 100000 in
theorem open_cell6 {fuel : Nat} {cs : List Value} {x : DataW H × List MemPlace} (h : DataW.trod enc Try.prog w base (fun _ => true) held fuel 60 cs = some x) :
    ∃ c : C, cs = c.vs ∧ (0 ≤ c.ch ∧ c.ch < 256) ∧ (0 ≤ c.fa ∧ c.fa < 256) := by
  obtain ⟨xs, n, _, _, hl, hxl, hf⟩ := DataW.trod_struct Try.underlying60 h
  have e60 : Try.prog.cellsOf 60 = 6 := by kernel_rfl
  have e5 : Try.prog.cellsOf 5 = 1 := by kernel_rfl
  have e4 : Try.prog.cellsOf 4 = 1 := by kernel_rfl
  rw [e60] at hl
  obtain ⟨c0, c1, c2, c3, c4, c5, rfl⟩ := list6 hl
  have g0 : DataW.trod enc Try.prog w base (fun _ => true) held n 5 ((List.drop 0 [c0, c1, c2, c3, c4, c5]).take (Try.prog.cellsOf 5)) = xs[0]? := hf 0 _ rfl
  have g1 : DataW.trod enc Try.prog w base (fun _ => true) held n 4 ((List.drop 1 [c0, c1, c2, c3, c4, c5]).take (Try.prog.cellsOf 4)) = xs[1]? := hf 1 _ rfl
  have g2 : DataW.trod enc Try.prog w base (fun _ => true) held n 5 ((List.drop 2 [c0, c1, c2, c3, c4, c5]).take (Try.prog.cellsOf 5)) = xs[2]? := hf 2 _ rfl
  have g3 : DataW.trod enc Try.prog w base (fun _ => true) held n 5 ((List.drop 3 [c0, c1, c2, c3, c4, c5]).take (Try.prog.cellsOf 5)) = xs[3]? := hf 3 _ rfl
  have g4 : DataW.trod enc Try.prog w base (fun _ => true) held n 5 ((List.drop 4 [c0, c1, c2, c3, c4, c5]).take (Try.prog.cellsOf 5)) = xs[4]? := hf 4 _ rfl
  have g5 : DataW.trod enc Try.prog w base (fun _ => true) held n 5 ((List.drop 5 [c0, c1, c2, c3, c4, c5]).take (Try.prog.cellsOf 5)) = xs[5]? := hf 5 _ rfl
  simp only [e5, e4, List.drop_succ_cons, List.drop_zero, List.take_succ_cons, List.take_zero] at g0 g1 g2 g3 g4 g5
  have hx : ∀ i, i < 6 → ∃ y, xs[i]? = some y := by
    intro i hi
    have : xs.length = 6 := hxl
    exact ⟨xs[i], List.getElem?_eq_getElem (by omega)⟩
  obtain ⟨y0, k0⟩ := hx 0 (by decide)
  obtain ⟨y1, k1⟩ := hx 1 (by decide)
  obtain ⟨y2, k2⟩ := hx 2 (by decide)
  obtain ⟨y3, k3⟩ := hx 3 (by decide)
  obtain ⟨y4, k4⟩ := hx 4 (by decide)
  obtain ⟨y5, k5⟩ := hx 5 (by decide)
  obtain ⟨z0, r0, _, w0⟩ := DataW.trod_int Try.underlying5 (g0.trans k0)
  obtain ⟨z1, r1, _⟩ := DataW.trod_bool Try.underlying4 (g1.trans k1)
  obtain ⟨z2, r2, _, w2⟩ := DataW.trod_int Try.underlying5 (g2.trans k2)
  obtain ⟨z3, r3, _, w3⟩ := DataW.trod_int Try.underlying5 (g3.trans k3)
  obtain ⟨z4, r4, _, w4⟩ := DataW.trod_int Try.underlying5 (g4.trans k4)
  obtain ⟨z5, r5, _, w5⟩ := DataW.trod_int Try.underlying5 (g5.trans k5)
  simp only [List.cons.injEq, and_true] at r0 r1 r2 r3 r4 r5
  subst r0 r1 r2 r3 r4 r5
  exact ⟨⟨z0, z1, z2, z3, z4, z5⟩, rfl, wf_u8 w0, wf_u8 w2⟩

set_option maxRecDepth 100000 in
theorem open_act {fuel : Nat} {cs : List Value} {x : DataW H × List MemPlace} (h : DataW.trod enc Try.prog w base (fun _ => true) held fuel 67 cs = some x) :
    ∃ (a : Ac) (tt : Option Addr) (cap : Nat), cs = [.int .u8 a.d, .int .i64 a.n, .bool a.on, .int .u8 a.code, .int .u8 a.c.ch, .bool a.c.at_, .int .u8 a.c.fa, .int .u8 a.c.hi, .int .u8 a.c.co, .int .u8 a.c.se, .slice tt a.tx.length cap] ∧ a.fine ∧ ∀ W, Keep [] w W → TxRow W tt a.tx := by
  obtain ⟨xs, n, _, _, hl, hxl, hf⟩ := DataW.trod_struct Try.underlying67 h
  have e67 : Try.prog.cellsOf 67 = 11 := by kernel_rfl
  have e60 : Try.prog.cellsOf 60 = 6 := by kernel_rfl
  have e5 : Try.prog.cellsOf 5 = 1 := by kernel_rfl
  have e4 : Try.prog.cellsOf 4 = 1 := by kernel_rfl
  have e3 : Try.prog.cellsOf 3 = 1 := by kernel_rfl
  have e36 : Try.prog.cellsOf 36 = 1 := by kernel_rfl
  rw [e67] at hl
  obtain ⟨c0, c1, c2, c3, c4, c5, c6, c7, c8, c9, c10, rfl⟩ := list11 hl
  have g0 : DataW.trod enc Try.prog w base (fun _ => true) held n 5 ((List.drop 0 [c0, c1, c2, c3, c4, c5, c6, c7, c8, c9, c10]).take (Try.prog.cellsOf 5)) = xs[0]? := hf 0 _ rfl
  have g1 : DataW.trod enc Try.prog w base (fun _ => true) held n 3 ((List.drop 1 [c0, c1, c2, c3, c4, c5, c6, c7, c8, c9, c10]).take (Try.prog.cellsOf 3)) = xs[1]? := hf 1 _ rfl
  have g2 : DataW.trod enc Try.prog w base (fun _ => true) held n 4 ((List.drop 2 [c0, c1, c2, c3, c4, c5, c6, c7, c8, c9, c10]).take (Try.prog.cellsOf 4)) = xs[2]? := hf 2 _ rfl
  have g3 : DataW.trod enc Try.prog w base (fun _ => true) held n 5 ((List.drop 3 [c0, c1, c2, c3, c4, c5, c6, c7, c8, c9, c10]).take (Try.prog.cellsOf 5)) = xs[3]? := hf 3 _ rfl
  have g4 : DataW.trod enc Try.prog w base (fun _ => true) held n 60 ((List.drop 4 [c0, c1, c2, c3, c4, c5, c6, c7, c8, c9, c10]).take (Try.prog.cellsOf 60)) = xs[4]? := hf 4 _ rfl
  have g5 : DataW.trod enc Try.prog w base (fun _ => true) held n 36 ((List.drop 10 [c0, c1, c2, c3, c4, c5, c6, c7, c8, c9, c10]).take (Try.prog.cellsOf 36)) = xs[5]? := hf 5 _ rfl
  simp only [e5, e4, e3, e60, e36, List.drop_succ_cons, List.drop_zero, List.take_succ_cons, List.take_zero] at g0 g1 g2 g3 g4 g5
  have hx : ∀ i, i < 6 → ∃ y, xs[i]? = some y := by
    intro i hi
    have : xs.length = 6 := hxl
    exact ⟨xs[i], List.getElem?_eq_getElem (by omega)⟩
  obtain ⟨y0, k0⟩ := hx 0 (by decide)
  obtain ⟨y1, k1⟩ := hx 1 (by decide)
  obtain ⟨y2, k2⟩ := hx 2 (by decide)
  obtain ⟨y3, k3⟩ := hx 3 (by decide)
  obtain ⟨y4, k4⟩ := hx 4 (by decide)
  obtain ⟨y5, k5⟩ := hx 5 (by decide)
  obtain ⟨z0, r0, _, w0⟩ := DataW.trod_int Try.underlying5 (g0.trans k0)
  obtain ⟨z1, r1, _, _⟩ := DataW.trod_int Try.underlying3 (g1.trans k1)
  obtain ⟨z2, r2, _⟩ := DataW.trod_bool Try.underlying4 (g2.trans k2)
  obtain ⟨z3, r3, _, w3⟩ := DataW.trod_int Try.underlying5 (g3.trans k3)
  obtain ⟨z4, r4, w4, w5⟩ := open_cell6 (g4.trans k4)
  simp only [List.cons.injEq, and_true, C.vs] at r0 r1 r2 r3 r4
  obtain ⟨q0, q1, q2, q3, q4, q5⟩ := r4
  subst r0 r1 r2 r3 q0 q1 q2 q3 q4 q5
  rcases open_ints Try.underlying36 Try.underlying5 (by kernel_rfl) (g5.trans k5) with ⟨hcs, _⟩ | ⟨tx, len, cap, zs, hcs, _, hl2, hm, hz, _, hcell, hwz⟩
  · simp only [List.cons.injEq, and_true] at hcs
    subst hcs
    refine ⟨⟨z0, z1, z2, z3, z4, []⟩, none, 0, rfl, ⟨wf_u8 w0, wf_u8 w3, w4, w5, (fun x hx => by cases hx), Nat.zero_le _⟩, fun W _ i h0 h1 => ?_⟩
    exfalso; have h1' : i < ((0 : Nat) : Int) := h1; omega
  · simp only [List.cons.injEq, and_true] at hcs
    subst hcs
    simp only [if_true] at hz
    have hlen : (zs.take len).length = len := by rw [List.length_take]; omega
    refine ⟨⟨z0, z1, z2, z3, z4, zs.take len⟩, some tx, cap, by simp only [hlen], ⟨wf_u8 w0, wf_u8 w3, w4, w5, fun x hx => wf_u8 (hwz x (List.mem_of_mem_take hx)), by simp only [hlen]; unfold maxLen at hm; omega⟩, fun W k i h0 h1 => ⟨tx, rfl, ?_⟩⟩
    simp only [hlen] at h1
    have hi : i.toNat < zs.length := by omega
    have := k.cell (hcell i.toNat hi)
    rw [this]
    congr 2
    rw [List.getD_eq_getElem?_getD, List.getD_eq_getElem?_getD, List.getElem?_take_of_lt (by omega)]

set_option maxRecDepth 100000 in
theorem open_acts {r : Reach} {b0 : Nat} {v : Value} {d : DataW H} {p : List MemPlace} (hv : Value.okWide Try.prog w r b0 57 v) (h : DataW.Trod enc Try.prog w base (fun _ => true) held 57 v d p) :
    ∃ (ta : Option Addr) (cap : Nat) (us : List Ac), v = .slice ta us.length cap ∧ Acts w ta us ∧ us.length ≤ maxLen := by
  obtain ⟨ta, len, cap, rfl⟩ := okWide_slice Try.underlying57 hv
  obtain ⟨fuel, hf⟩ := h
  have e67 : Try.prog.cellsOf 67 = 11 := by kernel_rfl
  rcases open_slice Try.underlying57 hf with ⟨hcs, _⟩ | ⟨a, len', cap', m, n, D, Pl, hcs, _, hl, hm, hmm, _, hi⟩
  · simp [Value.cells] at hcs
    obtain ⟨rfl, rfl, rfl⟩ := hcs
    exact ⟨none, 0, [], rfl, ⟨(fun a ha => by cases ha), (fun i hi => by simp at hi)⟩, Nat.zero_le _⟩
  · simp [Value.cells] at hcs
    obtain ⟨rfl, rfl, rfl⟩ := hcs
    simp only [if_true] at hmm
    subst hmm
    have hA : ∀ i, i < len → ∃ (x : Ac × Option Addr × Nat), x.1.fine ∧ (∀ W, Keep [] w W → TxRow W x.2.1 x.1.tx) ∧
        w.cells? base (a.add (i * 11)) 11 = some [.int .u8 x.1.d, .int .i64 x.1.n, .bool x.1.on, .int .u8 x.1.code, .int .u8 x.1.c.ch, .bool x.1.c.at_, .int .u8 x.1.c.fa, .int .u8 x.1.c.hi, .int .u8 x.1.c.co, .int .u8 x.1.c.se, .slice x.2.1 x.1.tx.length x.2.2] := by
      intro i hil
      obtain ⟨cs', hc, ht⟩ := hi i (by omega)
      obtain ⟨a', tt, cp, rfl, hfi, htx⟩ := open_act ht
      rw [e67] at hc
      exact ⟨⟨a', tt, cp⟩, hfi, htx, hc⟩
    obtain ⟨f, hfa⟩ : ∃ f : Nat → Ac × Option Addr × Nat, ∀ i, i < len → (f i).1.fine ∧ (∀ W, Keep [] w W → TxRow W (f i).2.1 (f i).1.tx) ∧
        w.cells? base (a.add (i * 11)) 11 = some [.int .u8 (f i).1.d, .int .i64 (f i).1.n, .bool (f i).1.on, .int .u8 (f i).1.code, .int .u8 (f i).1.c.ch, .bool (f i).1.c.at_, .int .u8 (f i).1.c.fa, .int .u8 (f i).1.c.hi, .int .u8 (f i).1.c.co, .int .u8 (f i).1.c.se, .slice (f i).2.1 (f i).1.tx.length (f i).2.2] := by
      refine ⟨fun i => if h : i < len then (hA i h).choose else ⟨⟨0, 0, false, 0, C.zero, []⟩, none, 0⟩, fun i hil => ?_⟩
      simp only [dif_pos hil]
      exact (hA i hil).choose_spec
    refine ⟨some a, m, (List.range len).map (fun i => (f i).1), by simp, ⟨?_, ?_⟩, by simpa using Nat.le_trans hl hm⟩
    · intro x hx
      obtain ⟨i, hi1, rfl⟩ := List.mem_map.1 hx
      exact (hfa i (by simpa using hi1)).1
    · intro i hil
      have hil' : i < len := by simpa using hil
      obtain ⟨_, htx, hc⟩ := hfa i hil'
      refine ⟨a, (f i).2.1, (f i).2.2, rfl, fun W k => ?_⟩
      simp only [List.getElem_map, List.getElem_range]
      obtain ⟨_, _, hat⟩ := World.cells?_some hc
      have hh : ∀ j v, j < 11 → ([Value.int .u8 (f i).1.d, .int .i64 (f i).1.n, .bool (f i).1.on, .int .u8 (f i).1.code, .int .u8 (f i).1.c.ch, .bool (f i).1.c.at_, .int .u8 (f i).1.c.fa, .int .u8 (f i).1.c.hi, .int .u8 (f i).1.c.co, .int .u8 (f i).1.c.se, .slice (f i).2.1 (f i).1.tx.length (f i).2.2])[j]? = some v → W.cell? ((a.add (i * 11)).add j) = some v := by
        intro j v hj hv
        have := hat j hj
        rw [hv] at this
        exact k.cell this
      have ha : ∀ (y : Addr) j, 0 < j → y.add j = ⟨y.block, y.off + j, none⟩ := fun y j hj => by unfold Addr.add; rw [if_neg (by omega)]
      have h1 : ∀ j v, 0 < j → j < 11 → ([Value.int .u8 (f i).1.d, .int .i64 (f i).1.n, .bool (f i).1.on, .int .u8 (f i).1.code, .int .u8 (f i).1.c.ch, .bool (f i).1.c.at_, .int .u8 (f i).1.c.fa, .int .u8 (f i).1.c.hi, .int .u8 (f i).1.c.co, .int .u8 (f i).1.c.se, .slice (f i).2.1 (f i).1.tx.length (f i).2.2])[j]? = some v → W.cell? ⟨(a.add (i * 11)).block, (a.add (i * 11)).off + j, none⟩ = some v := by
        intro j v h0 hj hv
        have := hh j v hj hv
        rw [ha _ j h0] at this
        exact this
      have h00 := hh 0 _ (by decide) rfl
      have ha0 : ∀ (y : Addr), y.add 0 = y := fun y => by unfold Addr.add; rw [if_pos rfl]
      rw [ha0] at h00
      refine ⟨htx W k, h00, h1 1 _ (by decide) (by decide) rfl, h1 2 _ (by decide) (by decide) rfl, h1 3 _ (by decide) (by decide) rfl, h1 4 _ (by decide) (by decide) rfl, h1 5 _ (by decide) (by decide) rfl, h1 6 _ (by decide) (by decide) rfl, h1 7 _ (by decide) (by decide) rfl, h1 8 _ (by decide) (by decide) rfl, h1 9 _ (by decide) (by decide) rfl, h1 10 _ (by decide) (by decide) rfl⟩
set_option maxRecDepth 100000 in
theorem open_cell {r : Reach} {b0 : Nat} {v : Value} {d : DataW H} {p : List MemPlace} (hv : Value.okWide Try.prog w r b0 60 v) (h : DataW.Trod enc Try.prog w base (fun _ => true) held 60 v d p) :
    ∃ c : C, v = c.v ∧ (0 ≤ c.ch ∧ c.ch < 256) ∧ (0 ≤ c.fa ∧ c.fa < 256) := by
  obtain ⟨cs, rfl, _⟩ := okWide_struct Try.underlying60 hv
  obtain ⟨fuel, hf⟩ := h
  obtain ⟨c, hc, h1, h2⟩ := open_cell6 hf
  refine ⟨c, ?_, h1, h2⟩
  simp only [Value.cells] at hc
  obtain ⟨l⟩ := cs
  simp only at hc
  subst hc
  rfl
end
theorem wf_i8 {n : Int} (h : (Lit.int .i8 n).wf = true) : -128 ≤ n ∧ n < 128 := by
  simp [Lit.wf, IntKind.min, IntKind.max, IntKind.bits, IntKind.signed] at h; omega
theorem wf_u16 {n : Int} (h : (Lit.int .u16 n).wf = true) : 0 ≤ n ∧ n < 65536 := by
  simp [Lit.wf, IntKind.min, IntKind.max, IntKind.bits, IntKind.signed] at h; omega
theorem wf_i64 {n : Int} (h : (Lit.int .i64 n).wf = true) : -9223372036854775808 ≤ n ∧ n < 9223372036854775808 := by
  simp [Lit.wf, IntKind.min, IntKind.max, IntKind.bits, IntKind.signed] at h; omega

end Go.Proofs.Ytangandfgbnomaa.V

