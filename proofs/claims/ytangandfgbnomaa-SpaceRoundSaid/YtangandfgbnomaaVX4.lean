/- Raw arguments opened: a cell by value, a row of acts. -/
import Derived.Test.YtangandfgbnomaaVX3
import Derived.Deep.Slices
import Derived.WalkKit
import Derived.ProofKit
import Derived.OpenShut
import Derived.ChangeOld
import Derived.SizedLaws
import Derived.Lib.SmallJoins
namespace Go.Proofs.Ytangandfgbnomaa.V
open Go.ChangeShapes Go.WideShapes Go.ChangeAt Go.Joins Go.Deep Go.RowKit Go.Proofs.YtangandfgbnomaaW.PrintWords Go.Proofs.YtangandfgbnomaaW.PrintLast Go.Proofs.YtangandfgbnomaaW.PrintMore
set_option linter.unusedVariables false
set_option linter.unusedSimpArgs false

theorem Keep.cell {w W : World} (k : Keep [] w W) {x : Addr} {v : Value} (h : w.cell? x = some v) : W.cell? x = some v := by
  unfold World.cell? at h ⊢
  split at h
  · rename_i c e f hx
    rw [k.heap hx (by simp)]
    exact h
  · cases h

/-- A row of acts in memory, whatever is done to other memory. -/
def Acts (w : World) (ta : Option Addr) (us : List Ac) : Prop :=
  (∀ a ∈ us, a.fine) ∧ ∀ i, (hi : i < us.length) → ∃ (x : Addr) (tt : Option Addr) (cap : Nat), ta = some x ∧ ∀ W, Keep [] w W → TxRow W tt us[i].tx ∧
    W.cell? (x.add (i * 11)) = some (.int .u8 us[i].d) ∧ W.cell? ⟨(x.add (i * 11)).block, (x.add (i * 11)).off + 1, none⟩ = some (.int .i64 us[i].n) ∧ W.cell? ⟨(x.add (i * 11)).block, (x.add (i * 11)).off + 2, none⟩ = some (.bool us[i].on) ∧ W.cell? ⟨(x.add (i * 11)).block, (x.add (i * 11)).off + 3, none⟩ = some (.int .u8 us[i].code) ∧
    W.cell? ⟨(x.add (i * 11)).block, (x.add (i * 11)).off + 4, none⟩ = some (.int .u8 us[i].c.ch) ∧ W.cell? ⟨(x.add (i * 11)).block, (x.add (i * 11)).off + 5, none⟩ = some (.bool us[i].c.at_) ∧ W.cell? ⟨(x.add (i * 11)).block, (x.add (i * 11)).off + 6, none⟩ = some (.int .u8 us[i].c.fa) ∧ W.cell? ⟨(x.add (i * 11)).block, (x.add (i * 11)).off + 7, none⟩ = some (.int .u8 us[i].c.hi) ∧
    W.cell? ⟨(x.add (i * 11)).block, (x.add (i * 11)).off + 8, none⟩ = some (.int .u8 us[i].c.co) ∧ W.cell? ⟨(x.add (i * 11)).block, (x.add (i * 11)).off + 9, none⟩ = some (.int .u8 us[i].c.se) ∧ W.cell? ⟨(x.add (i * 11)).block, (x.add (i * 11)).off + 10, none⟩ = some (.slice tt us[i].tx.length cap)

theorem wf_u8 {n : Int} (h : (Lit.int .u8 n).wf = true) : 0 ≤ n ∧ n < 256 := by
  simp [Lit.wf, IntKind.min, IntKind.max, IntKind.bits, IntKind.signed] at h; omega

theorem Acts.keep {w W : World} {ta : Option Addr} {us : List Ac} (h : Acts w ta us) (k : Keep [] w W) : Acts W ta us :=
  ⟨h.1, fun i hi => by obtain ⟨x, tt, cap, e, f⟩ := h.2 i hi; exact ⟨x, tt, cap, e, fun V hV => f V (k.trans hV (by simp))⟩⟩

section
variable {H : Type} {enc : TypeId × Value → H} {w : World} {base : Nat} {held : Bool}

theorem list11 {cs : List Value} (h : cs.length = 11) : ∃ c0 c1 c2 c3 c4 c5 c6 c7 c8 c9 c10, cs = [c0, c1, c2, c3, c4, c5, c6, c7, c8, c9, c10] := by
  match cs, h with
  | [c0, c1, c2, c3, c4, c5, c6, c7, c8, c9, c10], _ => exact ⟨_, _, _, _, _, _, _, _, _, _, _, rfl⟩
theorem list6 {cs : List Value} (h : cs.length = 6) : ∃ c0 c1 c2 c3 c4 c5, cs = [c0, c1, c2, c3, c4, c5] := by
  match cs, h with
  | [c0, c1, c2, c3, c4, c5], _ => exact ⟨_, _, _, _, _, _, rfl⟩

set_option maxRecDepth 100000 in
theorem open_cell6 {fuel : Nat} {cs : List Value} {x : DataW H × List MemPlace} (h : DataW.trod enc Try.prog w base (fun _ => true) held fuel 60 cs = some x) :
    ∃ c : C, cs = c.vs ∧ (0 ≤ c.ch ∧ c.ch < 256) ∧ (0 ≤ c.fa ∧ c.fa < 256) := by
  obtain ⟨xs, n, _, _, hl, hxl, hf⟩ := DataW.trod_struct Try.underlying60 h
  have e60 : Try.prog.cellsOf 60 = 6 := by kernel_rfl
  have e5 : Try.prog.cellsOf 5 = 1 := by kernel_rfl
  have e4 : Try.prog.cellsOf 4 = 1 := by kernel_rfl
  rw [e60] at hl
  obtain ⟨c0, c1, c2, c3, c4, c5, rfl⟩ := list6 hl
  have g0 : DataW.trod enc Try.prog w base (fun _ => true) held n 5 ((List.drop 0 [c0, c1, c2, c3, c4, c5]).take (Try.prog.cellsOf 5)) = xs[0]? := hf 0 _ rfl
  have g1 : DataW.trod enc Try.prog w base (fun _ => true) held n 4 ((List.drop 1 [c0, c1, c2, c3, c4, c5]).take (Try.prog.cellsOf 4)) = xs[1]? := hf 1 _ rfl
  have g2 : DataW.trod enc Try.prog w base (fun _ => true) held n 5 ((List.drop 2 [c0, c1, c2, c3, c4, c5]).take (Try.prog.cellsOf 5)) = xs[2]? := hf 2 _ rfl
  have g3 : DataW.trod enc Try.prog w base (fun _ => true) held n 5 ((List.drop 3 [c0, c1, c2, c3, c4, c5]).take (Try.prog.cellsOf 5)) = xs[3]? := hf 3 _ rfl
  have g4 : DataW.trod enc Try.prog w base (fun _ => true) held n 5 ((List.drop 4 [c0, c1, c2, c3, c4, c5]).take (Try.prog.cellsOf 5)) = xs[4]? := hf 4 _ rfl
  have g5 : DataW.trod enc Try.prog w base (fun _ => true) held n 5 ((List.drop 5 [c0, c1, c2, c3, c4, c5]).take (Try.prog.cellsOf 5)) = xs[5]? := hf 5 _ rfl
  simp only [e5, e4, List.drop_succ_cons, List.drop_zero, List.take_succ_cons, List.take_zero] at g0 g1 g2 g3 g4 g5
  have hx : ∀ i, i < 6 → ∃ y, xs[i]? = some y := by
    intro i hi
    have : xs.length = 6 := hxl
    exact ⟨xs[i], List.getElem?_eq_getElem (by omega)⟩
  obtain ⟨y0, k0⟩ := hx 0 (by decide)
  obtain ⟨y1, k1⟩ := hx 1 (by decide)
  obtain ⟨y2, k2⟩ := hx 2 (by decide)
  obtain ⟨y3, k3⟩ := hx 3 (by decide)
  obtain ⟨y4, k4⟩ := hx 4 (by decide)
  obtain ⟨y5, k5⟩ := hx 5 (by decide)
  obtain ⟨z0, r0, _, w0⟩ := DataW.trod_int Try.underlying5 (g0.trans k0)
  obtain ⟨z1, r1, _⟩ := DataW.trod_bool Try.underlying4 (g1.trans k1)
  obtain ⟨z2, r2, _, w2⟩ := DataW.trod_int Try.underlying5 (g2.trans k2)
  obtain ⟨z3, r3, _, w3⟩ := DataW.trod_int Try.underlying5 (g3.trans k3)
  obtain ⟨z4, r4, _, w4⟩ := DataW.trod_int Try.underlying5 (g4.trans k4)
  obtain ⟨z5, r5, _, w5⟩ := DataW.trod_int Try.underlying5 (g5.trans k5)
  simp only [List.cons.injEq, and_true] at r0 r1 r2 r3 r4 r5
  subst r0 r1 r2 r3 r4 r5
  exact ⟨⟨z0, z1, z2, z3, z4, z5⟩, rfl, wf_u8 w0, wf_u8 w2⟩

set_option maxRecDepth 100000 in
theorem open_act {fuel : Nat} {cs : List Value} {x : DataW H × List MemPlace} (h : DataW.trod enc Try.prog w base (fun _ => true) held fuel 67 cs = some x) :
    ∃ (a : Ac) (tt : Option Addr) (cap : Nat), cs = [.int .u8 a.d, .int .i64 a.n, .bool a.on, .int .u8 a.code, .int .u8 a.c.ch, .bool a.c.at_, .int .u8 a.c.fa, .int .u8 a.c.hi, .int .u8 a.c.co, .int .u8 a.c.se, .slice tt a.tx.length cap] ∧ a.fine ∧ ∀ W, Keep [] w W → TxRow W tt a.tx := by
  obtain ⟨xs, n, _, _, hl, hxl, hf⟩ := DataW.trod_struct Try.underlying67 h
  have e67 : Try.prog.cellsOf 67 = 11 := by kernel_rfl
  have e60 : Try.prog.cellsOf 60 = 6 := by kernel_rfl
  have e5 : Try.prog.cellsOf 5 = 1 := by kernel_rfl
  have e4 : Try.prog.cellsOf 4 = 1 := by kernel_rfl
  have e3 : Try.prog.cellsOf 3 = 1 := by kernel_rfl
  have e36 : Try.prog.cellsOf 36 = 1 := by kernel_rfl
  rw [e67] at hl
  obtain ⟨c0, c1, c2, c3, c4, c5, c6, c7, c8, c9, c10, rfl⟩ := list11 hl
  have g0 : DataW.trod enc Try.prog w base (fun _ => true) held n 5 ((List.drop 0 [c0, c1, c2, c3, c4, c5, c6, c7, c8, c9, c10]).take (Try.prog.cellsOf 5)) = xs[0]? := hf 0 _ rfl
  have g1 : DataW.trod enc Try.prog w base (fun _ => true) held n 3 ((List.drop 1 [c0, c1, c2, c3, c4, c5, c6, c7, c8, c9, c10]).take (Try.prog.cellsOf 3)) = xs[1]? := hf 1 _ rfl
  have g2 : DataW.trod enc Try.prog w base (fun _ => true) held n 4 ((List.drop 2 [c0, c1, c2, c3, c4, c5, c6, c7, c8, c9, c10]).take (Try.prog.cellsOf 4)) = xs[2]? := hf 2 _ rfl
  have g3 : DataW.trod enc Try.prog w base (fun _ => true) held n 5 ((List.drop 3 [c0, c1, c2, c3, c4, c5, c6, c7, c8, c9, c10]).take (Try.prog.cellsOf 5)) = xs[3]? := hf 3 _ rfl
  have g4 : DataW.trod enc Try.prog w base (fun _ => true) held n 60 ((List.drop 4 [c0, c1, c2, c3, c4, c5, c6, c7, c8, c9, c10]).take (Try.prog.cellsOf 60)) = xs[4]? := hf 4 _ rfl
  have g5 : DataW.trod enc Try.prog w base (fun _ => true) held n 36 ((List.drop 10 [c0, c1, c2, c3, c4, c5, c6, c7, c8, c9, c10]).take (Try.prog.cellsOf 36)) = xs[5]? := hf 5 _ rfl
  simp only [e5, e4, e3, e60, e36, List.drop_succ_cons, List.drop_zero, List.take_succ_cons, List.take_zero] at g0 g1 g2 g3 g4 g5
  have hx : ∀ i, i < 6 → ∃ y, xs[i]? = some y := by
    intro i hi
    have : xs.length = 6 := hxl
    exact ⟨xs[i], List.getElem?_eq_getElem (by omega)⟩
  obtain ⟨y0, k0⟩ := hx 0 (by decide)
  obtain ⟨y1, k1⟩ := hx 1 (by decide)
  obtain ⟨y2, k2⟩ := hx 2 (by decide)
  obtain ⟨y3, k3⟩ := hx 3 (by decide)
  obtain ⟨y4, k4⟩ := hx 4 (by decide)
  obtain ⟨y5, k5⟩ := hx 5 (by decide)
  obtain ⟨z0, r0, _, w0⟩ := DataW.trod_int Try.underlying5 (g0.trans k0)
  obtain ⟨z1, r1, _, _⟩ := DataW.trod_int Try.underlying3 (g1.trans k1)
  obtain ⟨z2, r2, _⟩ := DataW.trod_bool Try.underlying4 (g2.trans k2)
  obtain ⟨z3, r3, _, w3⟩ := DataW.trod_int Try.underlying5 (g3.trans k3)
  obtain ⟨z4, r4, w4, w5⟩ := open_cell6 (g4.trans k4)
  simp only [List.cons.injEq, and_true, C.vs] at r0 r1 r2 r3 r4
  obtain ⟨q0, q1, q2, q3, q4, q5⟩ := r4
  subst r0 r1 r2 r3 q0 q1 q2 q3 q4 q5
  rcases open_ints Try.underlying36 Try.underlying5 (by kernel_rfl) (g5.trans k5) with ⟨hcs, _⟩ | ⟨tx, len, cap, zs, hcs, _, hl2, hm, hz, _, hcell, hwz⟩
  · simp only [List.cons.injEq, and_true] at hcs
    subst hcs
    refine ⟨⟨z0, z1, z2, z3, z4, []⟩, none, 0, rfl, ⟨wf_u8 w0, wf_u8 w3, w4, w5, (fun x hx => by cases hx), Nat.zero_le _⟩, fun W _ i h0 h1 => ?_⟩
    exfalso; have h1' : i < ((0 : Nat) : Int) := h1; omega
  · simp only [List.cons.injEq, and_true] at hcs
    subst hcs
    simp only [if_true] at hz
    have hlen : (zs.take len).length = len := by rw [List.length_take]; omega
    refine ⟨⟨z0, z1, z2, z3, z4, zs.take len⟩, some tx, cap, by simp only [hlen], ⟨wf_u8 w0, wf_u8 w3, w4, w5, fun x hx => wf_u8 (hwz x (List.mem_of_mem_take hx)), by simp only [hlen]; unfold maxLen at hm; omega⟩, fun W k i h0 h1 => ⟨tx, rfl, ?_⟩⟩
    simp only [hlen] at h1
    have hi : i.toNat < zs.length := by omega
    have := k.cell (hcell i.toNat hi)
    rw [this]
    congr 2
    rw [List.getD_eq_getElem?_getD, List.getD_eq_getElem?_getD, List.getElem?_take_of_lt (by omega)]

set_option maxRecDepth 100000 in
theorem open_acts {r : Reach} {b0 : Nat} {v : Value} {d : DataW H} {p : List MemPlace} (hv : Value.okWide Try.prog w r b0 57 v) (h : DataW.Trod enc Try.prog w base (fun _ => true) held 57 v d p) :
    ∃ (ta : Option Addr) (cap : Nat) (us : List Ac), v = .slice ta us.length cap ∧ Acts w ta us ∧ us.length ≤ maxLen := by
  obtain ⟨ta, len, cap, rfl⟩ := okWide_slice Try.underlying57 hv
  obtain ⟨fuel, hf⟩ := h
  have e67 : Try.prog.cellsOf 67 = 11 := by kernel_rfl
  rcases open_slice Try.underlying57 hf with ⟨hcs, _⟩ | ⟨a, len', cap', m, n, D, Pl, hcs, _, hl, hm, hmm, _, hi⟩
  · simp [Value.cells] at hcs
    obtain ⟨rfl, rfl, rfl⟩ := hcs
    exact ⟨none, 0, [], rfl, ⟨(fun a ha => by cases ha), (fun i hi => by simp at hi)⟩, Nat.zero_le _⟩
  · simp [Value.cells] at hcs
    obtain ⟨rfl, rfl, rfl⟩ := hcs
    simp only [if_true] at hmm
    subst hmm
    have hA : ∀ i, i < len → ∃ (x : Ac × Option Addr × Nat), x.1.fine ∧ (∀ W, Keep [] w W → TxRow W x.2.1 x.1.tx) ∧
        w.cells? base (a.add (i * 11)) 11 = some [.int .u8 x.1.d, .int .i64 x.1.n, .bool x.1.on, .int .u8 x.1.code, .int .u8 x.1.c.ch, .bool x.1.c.at_, .int .u8 x.1.c.fa, .int .u8 x.1.c.hi, .int .u8 x.1.c.co, .int .u8 x.1.c.se, .slice x.2.1 x.1.tx.length x.2.2] := by
      intro i hil
      obtain ⟨cs', hc, ht⟩ := hi i (by omega)
      obtain ⟨a', tt, cp, rfl, hfi, htx⟩ := open_act ht
      rw [e67] at hc
      exact ⟨⟨a', tt, cp⟩, hfi, htx, hc⟩
    obtain ⟨f, hfa⟩ : ∃ f : Nat → Ac × Option Addr × Nat, ∀ i, i < len → (f i).1.fine ∧ (∀ W, Keep [] w W → TxRow W (f i).2.1 (f i).1.tx) ∧
        w.cells? base (a.add (i * 11)) 11 = some [.int .u8 (f i).1.d, .int .i64 (f i).1.n, .bool (f i).1.on, .int .u8 (f i).1.code, .int .u8 (f i).1.c.ch, .bool (f i).1.c.at_, .int .u8 (f i).1.c.fa, .int .u8 (f i).1.c.hi, .int .u8 (f i).1.c.co, .int .u8 (f i).1.c.se, .slice (f i).2.1 (f i).1.tx.length (f i).2.2] := by
      refine ⟨fun i => if h : i < len then (hA i h).choose else ⟨⟨0, 0, false, 0, C.zero, []⟩, none, 0⟩, fun i hil => ?_⟩
      simp only [dif_pos hil]
      exact (hA i hil).choose_spec
    refine ⟨some a, m, (List.range len).map (fun i => (f i).1), by simp, ⟨?_, ?_⟩, by simpa using Nat.le_trans hl hm⟩
    · intro x hx
      obtain ⟨i, hi1, rfl⟩ := List.mem_map.1 hx
      exact (hfa i (by simpa using hi1)).1
    · intro i hil
      have hil' : i < len := by simpa using hil
      obtain ⟨_, htx, hc⟩ := hfa i hil'
      refine ⟨a, (f i).2.1, (f i).2.2, rfl, fun W k => ?_⟩
      simp only [List.getElem_map, List.getElem_range]
      obtain ⟨_, _, hat⟩ := World.cells?_some hc
      have hh : ∀ j v, j < 11 → ([Value.int .u8 (f i).1.d, .int .i64 (f i).1.n, .bool (f i).1.on, .int .u8 (f i).1.code, .int .u8 (f i).1.c.ch, .bool (f i).1.c.at_, .int .u8 (f i).1.c.fa, .int .u8 (f i).1.c.hi, .int .u8 (f i).1.c.co, .int .u8 (f i).1.c.se, .slice (f i).2.1 (f i).1.tx.length (f i).2.2])[j]? = some v → W.cell? ((a.add (i * 11)).add j) = some v := by
        intro j v hj hv
        have := hat j hj
        rw [hv] at this
        exact k.cell this
      have ha : ∀ (y : Addr) j, 0 < j → y.add j = ⟨y.block, y.off + j, none⟩ := fun y j hj => by unfold Addr.add; rw [if_neg (by omega)]
      have h1 : ∀ j v, 0 < j → j < 11 → ([Value.int .u8 (f i).1.d, .int .i64 (f i).1.n, .bool (f i).1.on, .int .u8 (f i).1.code, .int .u8 (f i).1.c.ch, .bool (f i).1.c.at_, .int .u8 (f i).1.c.fa, .int .u8 (f i).1.c.hi, .int .u8 (f i).1.c.co, .int .u8 (f i).1.c.se, .slice (f i).2.1 (f i).1.tx.length (f i).2.2])[j]? = some v → W.cell? ⟨(a.add (i * 11)).block, (a.add (i * 11)).off + j, none⟩ = some v := by
        intro j v h0 hj hv
        have := hh j v hj hv
        rw [ha _ j h0] at this
        exact this
      have h00 := hh 0 _ (by decide) rfl
      have ha0 : ∀ (y : Addr), y.add 0 = y := fun y => by unfold Addr.add; rw [if_pos rfl]
      rw [ha0] at h00
      refine ⟨htx W k, h00, h1 1 _ (by decide) (by decide) rfl, h1 2 _ (by decide) (by decide) rfl, h1 3 _ (by decide) (by decide) rfl, h1 4 _ (by decide) (by decide) rfl, h1 5 _ (by decide) (by decide) rfl, h1 6 _ (by decide) (by decide) rfl, h1 7 _ (by decide) (by decide) rfl, h1 8 _ (by decide) (by decide) rfl, h1 9 _ (by decide) (by decide) rfl, h1 10 _ (by decide) (by decide) rfl⟩
set_option maxRecDepth 100000 in
theorem open_cell {r : Reach} {b0 : Nat} {v : Value} {d : DataW H} {p : List MemPlace} (hv : Value.okWide Try.prog w r b0 60 v) (h : DataW.Trod enc Try.prog w base (fun _ => true) held 60 v d p) :
    ∃ c : C, v = c.v ∧ (0 ≤ c.ch ∧ c.ch < 256) ∧ (0 ≤ c.fa ∧ c.fa < 256) := by
  obtain ⟨cs, rfl, _⟩ := okWide_struct Try.underlying60 hv
  obtain ⟨fuel, hf⟩ := h
  obtain ⟨c, hc, h1, h2⟩ := open_cell6 hf
  refine ⟨c, ?_, h1, h2⟩
  simp only [Value.cells] at hc
  obtain ⟨l⟩ := cs
  simp only at hc
  subst hc
  rfl
end
theorem wf_i8 {n : Int} (h : (Lit.int .i8 n).wf = true) : -128 ≤ n ∧ n < 128 := by
  simp [Lit.wf, IntKind.min, IntKind.max, IntKind.bits, IntKind.signed] at h; omega
theorem wf_u16 {n : Int} (h : (Lit.int .u16 n).wf = true) : 0 ≤ n ∧ n < 65536 := by
  simp [Lit.wf, IntKind.min, IntKind.max, IntKind.bits, IntKind.signed] at h; omega
theorem wf_i64 {n : Int} (h : (Lit.int .i64 n).wf = true) : -9223372036854775808 ≤ n ∧ n < 9223372036854775808 := by
  simp [Lit.wf, IntKind.min, IntKind.max, IntKind.bits, IntKind.signed] at h; omega

end Go.Proofs.Ytangandfgbnomaa.V
