/- Rows of the acts of the cursor and of acts that erase, opened. -/
import Derived.Test.YtangandfgbnomaaVX
import Derived.Test.YtangandfgbnomaaVC0
namespace Go.Proofs.Ytangandfgbnomaa.V
open Go.ChangeShapes Go.WideShapes Go.ChangeAt Go.Joins Go.Deep Go.RowKit
set_option linter.unusedVariables false
set_option linter.unusedSimpArgs false


structure CA where
  d : Int
  a : Int
  b : Int
def CA.fine (a : CA) : Prop := 0 ≤ a.d ∧ a.d < 256
/-- An act that erases. -/
structure EA where
  d : Int
  n : Int
  m : Int
  c : C
def EA.fine (a : EA) : Prop := (0 ≤ a.d ∧ a.d < 256) ∧ (0 ≤ a.c.ch ∧ a.c.ch < 256) ∧ (0 ≤ a.c.fa ∧ a.c.fa < 256)
abbrev EA.v (a : EA) : Value := .agg #[.int .u8 a.d, .int .i64 a.n, .int .i64 a.m, .int .u8 a.c.ch, .bool a.c.at_, .int .u8 a.c.fa, .int .u8 a.c.hi, .int .u8 a.c.co, .int .u8 a.c.se]
theorem list3 {cs : List Value} (h : cs.length = 3) : ∃ c0 c1 c2, cs = [c0, c1, c2] := by
  match cs, h with
  | [c0, c1, c2], _ => exact ⟨_, _, _, rfl⟩
theorem list9 {cs : List Value} (h : cs.length = 9) : ∃ c0 c1 c2 c3 c4 c5 c6 c7 c8, cs = [c0, c1, c2, c3, c4, c5, c6, c7, c8] := by
  match cs, h with
  | [c0, c1, c2, c3, c4, c5, c6, c7, c8], _ => exact ⟨_, _, _, _, _, _, _, _, _, rfl⟩

section
variable {H : Type} {enc : TypeId × Value → H} {w : World} {base : Nat} {held : Bool}
set_option maxRecDepth 100000 in
theorem open_ca {fuel : Nat} {cs : List Value} {x : DataW H × List MemPlace} (h : DataW.trod enc Try.prog w base (fun _ => true) held fuel 133 cs = some x) :
    ∃ (a : CA), cs = [.int .u8 a.d, .int .i64 a.a, .int .i64 a.b] ∧ a.fine := by
  obtain ⟨xs, n, _, _, hl, hxl, hf⟩ := DataW.trod_struct Try.underlying133 h
  have e133 : Try.prog.cellsOf 133 = 3 := by kernel_rfl
  have e5 : Try.prog.cellsOf 5 = 1 := by kernel_rfl
  have e3 : Try.prog.cellsOf 3 = 1 := by kernel_rfl
  rw [e133] at hl
  obtain ⟨c0, c1, c2, rfl⟩ := list3 hl
  have g0 : DataW.trod enc Try.prog w base (fun _ => true) held n 5 ((List.drop 0 [c0, c1, c2]).take (Try.prog.cellsOf 5)) = xs[0]? := hf 0 _ rfl
  have g1 : DataW.trod enc Try.prog w base (fun _ => true) held n 3 ((List.drop 1 [c0, c1, c2]).take (Try.prog.cellsOf 3)) = xs[1]? := hf 1 _ rfl
  have g2 : DataW.trod enc Try.prog w base (fun _ => true) held n 3 ((List.drop 2 [c0, c1, c2]).take (Try.prog.cellsOf 3)) = xs[2]? := hf 2 _ rfl
  simp only [e5, e3, List.drop_succ_cons, List.drop_zero, List.take_succ_cons, List.take_zero] at g0 g1 g2
  have hx : ∀ i, i < 3 → ∃ y, xs[i]? = some y := by
    intro i hi
    have : xs.length = 3 := hxl
    exact ⟨xs[i], List.getElem?_eq_getElem (by omega)⟩
  obtain ⟨y0, k0⟩ := hx 0 (by decide)
  obtain ⟨y1, k1⟩ := hx 1 (by decide)
  obtain ⟨y2, k2⟩ := hx 2 (by decide)
  obtain ⟨z0, r0, _, w0⟩ := DataW.trod_int Try.underlying5 (g0.trans k0)
  obtain ⟨z1, r1, _, w1⟩ := DataW.trod_int Try.underlying3 (g1.trans k1)
  obtain ⟨z2, r2, _, w2⟩ := DataW.trod_int Try.underlying3 (g2.trans k2)
  simp only [List.cons.injEq, and_true] at r0 r1 r2
  subst r0 r1 r2
  exact ⟨⟨z0, z1, z2⟩, rfl, wf_u8 w0⟩
set_option maxRecDepth 100000 in
theorem open_ea {fuel : Nat} {cs : List Value} {x : DataW H × List MemPlace} (h : DataW.trod enc Try.prog w base (fun _ => true) held fuel 140 cs = some x) :
    ∃ (a : EA), cs = [.int .u8 a.d, .int .i64 a.n, .int .i64 a.m, .int .u8 a.c.ch, .bool a.c.at_, .int .u8 a.c.fa, .int .u8 a.c.hi, .int .u8 a.c.co, .int .u8 a.c.se] ∧ a.fine := by
  obtain ⟨xs, n, _, _, hl, hxl, hf⟩ := DataW.trod_struct Try.underlying140 h
  have e140 : Try.prog.cellsOf 140 = 9 := by kernel_rfl
  have e60 : Try.prog.cellsOf 60 = 6 := by kernel_rfl
  have e5 : Try.prog.cellsOf 5 = 1 := by kernel_rfl
  have e3 : Try.prog.cellsOf 3 = 1 := by kernel_rfl
  rw [e140] at hl
  obtain ⟨c0, c1, c2, c3, c4, c5, c6, c7, c8, rfl⟩ := list9 hl
  have g0 : DataW.trod enc Try.prog w base (fun _ => true) held n 5 ((List.drop 0 [c0, c1, c2, c3, c4, c5, c6, c7, c8]).take (Try.prog.cellsOf 5)) = xs[0]? := hf 0 _ rfl
  have g1 : DataW.trod enc Try.prog w base (fun _ => true) held n 3 ((List.drop 1 [c0, c1, c2, c3, c4, c5, c6, c7, c8]).take (Try.prog.cellsOf 3)) = xs[1]? := hf 1 _ rfl
  have g2 : DataW.trod enc Try.prog w base (fun _ => true) held n 3 ((List.drop 2 [c0, c1, c2, c3, c4, c5, c6, c7, c8]).take (Try.prog.cellsOf 3)) = xs[2]? := hf 2 _ rfl
  have g3 : DataW.trod enc Try.prog w base (fun _ => true) held n 60 ((List.drop 3 [c0, c1, c2, c3, c4, c5, c6, c7, c8]).take (Try.prog.cellsOf 60)) = xs[3]? := hf 3 _ rfl
  simp only [e5, e3, e60, List.drop_succ_cons, List.drop_zero, List.take_succ_cons, List.take_zero] at g0 g1 g2 g3
  have hx : ∀ i, i < 4 → ∃ y, xs[i]? = some y := by
    intro i hi
    have : xs.length = 4 := hxl
    exact ⟨xs[i], List.getElem?_eq_getElem (by omega)⟩
  obtain ⟨y0, k0⟩ := hx 0 (by decide)
  obtain ⟨y1, k1⟩ := hx 1 (by decide)
  obtain ⟨y2, k2⟩ := hx 2 (by decide)
  obtain ⟨y3, k3⟩ := hx 3 (by decide)
  obtain ⟨z0, r0, _, w0⟩ := DataW.trod_int Try.underlying5 (g0.trans k0)
  obtain ⟨z1, r1, _, w1⟩ := DataW.trod_int Try.underlying3 (g1.trans k1)
  obtain ⟨z2, r2, _, w2⟩ := DataW.trod_int Try.underlying3 (g2.trans k2)
  obtain ⟨z3, r3, w3, w4⟩ := open_cell6 (g3.trans k3)
  simp only [List.cons.injEq, and_true, C.vs] at r0 r1 r2 r3
  obtain ⟨rfl, rfl, rfl, rfl, rfl, rfl⟩ := r3
  subst r0 r1 r2
  exact ⟨⟨z0, z1, z2, z3⟩, rfl, wf_u8 w0, w3, w4⟩
end

/-- Such a row in memory. -/
def CActs (w : World) (ta : Option Addr) (us : List CA) : Prop :=
  (∀ a ∈ us, a.fine) ∧ ∀ i, (hi : i < us.length) → ∃ (x : Addr), ta = some x ∧ ∀ W, Keep [] w W → W.cell? (x.add (i * 3)) = some (.int .u8 us[i].d) ∧ W.cell? ⟨(x.add (i * 3)).block, (x.add (i * 3)).off + 1, none⟩ = some (.int .i64 us[i].a) ∧ W.cell? ⟨(x.add (i * 3)).block, (x.add (i * 3)).off + 2, none⟩ = some (.int .i64 us[i].b)
theorem CActs.keep {w W : World} {ta : Option Addr} {us : List CA} (h : CActs w ta us) (k : Keep [] w W) : CActs W ta us :=
  ⟨h.1, fun i hi => by obtain ⟨x, e, f⟩ := h.2 i hi; exact ⟨x, e, fun V hV => f V (k.trans hV (by simp))⟩⟩
section
variable {H : Type} {enc : TypeId × Value → H} {w : World} {base : Nat} {held : Bool}
set_option maxRecDepth 100000 in
theorem open_CActs {r : Reach} {b0 : Nat} {v : Value} {d : DataW H} {p : List MemPlace} (hv : Value.okWide Try.prog w r b0 131 v) (h : DataW.Trod enc Try.prog w base (fun _ => true) held 131 v d p) :
    ∃ (ta : Option Addr) (cap : Nat) (us : List CA), v = .slice ta us.length cap ∧ CActs w ta us ∧ us.length ≤ maxLen := by
  obtain ⟨ta, len, cap, rfl⟩ := okWide_slice Try.underlying131 hv
  obtain ⟨fuel, hf⟩ := h
  have eel : Try.prog.cellsOf 133 = 3 := by kernel_rfl
  rcases open_slice Try.underlying131 hf with ⟨hcs, _⟩ | ⟨a, len', cap', m, n, D, Pl, hcs, _, hl, hm, hmm, _, hi⟩
  · simp [Value.cells] at hcs
    obtain ⟨rfl, rfl, rfl⟩ := hcs
    exact ⟨none, 0, [], rfl, ⟨(fun a ha => by cases ha), (fun i hi => by simp at hi)⟩, Nat.zero_le _⟩
  · simp [Value.cells] at hcs
    obtain ⟨rfl, rfl, rfl⟩ := hcs
    simp only [if_true] at hmm
    subst hmm
    have hA : ∀ i, i < len → ∃ (x : CA), x.fine ∧ w.cells? base (a.add (i * 3)) 3 = some [.int .u8 x.d, .int .i64 x.a, .int .i64 x.b] := by
      intro i hil
      obtain ⟨cs', hc, ht⟩ := hi i (by omega)
      obtain ⟨a', rfl, hfi⟩ := open_ca ht
      rw [eel] at hc
      exact ⟨a', hfi, hc⟩
    obtain ⟨f, hfa⟩ : ∃ f : Nat → CA, ∀ i, i < len → (f i).fine ∧ w.cells? base (a.add (i * 3)) 3 = some [.int .u8 (f i).d, .int .i64 (f i).a, .int .i64 (f i).b] := by
      refine ⟨fun i => if h : i < len then (hA i h).choose else ⟨0, 0, 0⟩, fun i hil => ?_⟩
      simp only [dif_pos hil]
      exact (hA i hil).choose_spec
    refine ⟨some a, m, (List.range len).map f, by simp, ⟨?_, ?_⟩, by simpa using Nat.le_trans hl hm⟩
    · intro x hx
      obtain ⟨i, hi1, rfl⟩ := List.mem_map.1 hx
      exact (hfa i (by simpa using hi1)).1
    · intro i hil
      have hil' : i < len := by simpa using hil
      obtain ⟨_, hc⟩ := hfa i hil'
      refine ⟨a, rfl, fun W k => ?_⟩
      simp only [List.getElem_map, List.getElem_range]
      obtain ⟨_, _, hat⟩ := World.cells?_some hc
      have hh : ∀ j v, j < 3 → ([.int .u8 (f i).d, .int .i64 (f i).a, .int .i64 (f i).b])[j]? = some v → W.cell? ((a.add (i * 3)).add j) = some v := by
        intro j v hj hv
        have := hat j hj
        rw [hv] at this
        exact k.cell this
      have ha : ∀ (y : Addr) j, 0 < j → y.add j = ⟨y.block, y.off + j, none⟩ := fun y j hj => by unfold Addr.add; rw [if_neg (by omega)]
      have h1 : ∀ j v, 0 < j → j < 3 → ([.int .u8 (f i).d, .int .i64 (f i).a, .int .i64 (f i).b])[j]? = some v → W.cell? ⟨(a.add (i * 3)).block, (a.add (i * 3)).off + j, none⟩ = some v := by
        intro j v h0 hj hv
        have := hh j v hj hv
        rw [ha _ j h0] at this
        exact this
      have h00 := hh 0 _ (by decide) rfl
      have ha0 : ∀ (y : Addr), y.add 0 = y := fun y => by unfold Addr.add; rw [if_pos rfl]
      rw [ha0] at h00
      exact ⟨h00, h1 1 _ (by decide) (by decide) rfl, h1 2 _ (by decide) (by decide) rfl⟩
end

/-- Such a row in memory. -/
def EActs (w : World) (ta : Option Addr) (us : List EA) : Prop :=
  (∀ a ∈ us, a.fine) ∧ ∀ i, (hi : i < us.length) → ∃ (x : Addr), ta = some x ∧ ∀ W, Keep [] w W → W.cell? (x.add (i * 9)) = some (.int .u8 us[i].d) ∧ W.cell? ⟨(x.add (i * 9)).block, (x.add (i * 9)).off + 1, none⟩ = some (.int .i64 us[i].n) ∧ W.cell? ⟨(x.add (i * 9)).block, (x.add (i * 9)).off + 2, none⟩ = some (.int .i64 us[i].m) ∧ W.cell? ⟨(x.add (i * 9)).block, (x.add (i * 9)).off + 3, none⟩ = some (.int .u8 us[i].c.ch) ∧ W.cell? ⟨(x.add (i * 9)).block, (x.add (i * 9)).off + 4, none⟩ = some (.bool us[i].c.at_) ∧ W.cell? ⟨(x.add (i * 9)).block, (x.add (i * 9)).off + 5, none⟩ = some (.int .u8 us[i].c.fa) ∧ W.cell? ⟨(x.add (i * 9)).block, (x.add (i * 9)).off + 6, none⟩ = some (.int .u8 us[i].c.hi) ∧ W.cell? ⟨(x.add (i * 9)).block, (x.add (i * 9)).off + 7, none⟩ = some (.int .u8 us[i].c.co) ∧ W.cell? ⟨(x.add (i * 9)).block, (x.add (i * 9)).off + 8, none⟩ = some (.int .u8 us[i].c.se)
theorem EActs.keep {w W : World} {ta : Option Addr} {us : List EA} (h : EActs w ta us) (k : Keep [] w W) : EActs W ta us :=
  ⟨h.1, fun i hi => by obtain ⟨x, e, f⟩ := h.2 i hi; exact ⟨x, e, fun V hV => f V (k.trans hV (by simp))⟩⟩
section
variable {H : Type} {enc : TypeId × Value → H} {w : World} {base : Nat} {held : Bool}
set_option maxRecDepth 100000 in
theorem open_EActs {r : Reach} {b0 : Nat} {v : Value} {d : DataW H} {p : List MemPlace} (hv : Value.okWide Try.prog w r b0 143 v) (h : DataW.Trod enc Try.prog w base (fun _ => true) held 143 v d p) :
    ∃ (ta : Option Addr) (cap : Nat) (us : List EA), v = .slice ta us.length cap ∧ EActs w ta us ∧ us.length ≤ maxLen := by
  obtain ⟨ta, len, cap, rfl⟩ := okWide_slice Try.underlying143 hv
  obtain ⟨fuel, hf⟩ := h
  have eel : Try.prog.cellsOf 140 = 9 := by kernel_rfl
  rcases open_slice Try.underlying143 hf with ⟨hcs, _⟩ | ⟨a, len', cap', m, n, D, Pl, hcs, _, hl, hm, hmm, _, hi⟩
  · simp [Value.cells] at hcs
    obtain ⟨rfl, rfl, rfl⟩ := hcs
    exact ⟨none, 0, [], rfl, ⟨(fun a ha => by cases ha), (fun i hi => by simp at hi)⟩, Nat.zero_le _⟩
  · simp [Value.cells] at hcs
    obtain ⟨rfl, rfl, rfl⟩ := hcs
    simp only [if_true] at hmm
    subst hmm
    have hA : ∀ i, i < len → ∃ (x : EA), x.fine ∧ w.cells? base (a.add (i * 9)) 9 = some [.int .u8 x.d, .int .i64 x.n, .int .i64 x.m, .int .u8 x.c.ch, .bool x.c.at_, .int .u8 x.c.fa, .int .u8 x.c.hi, .int .u8 x.c.co, .int .u8 x.c.se] := by
      intro i hil
      obtain ⟨cs', hc, ht⟩ := hi i (by omega)
      obtain ⟨a', rfl, hfi⟩ := open_ea ht
      rw [eel] at hc
      exact ⟨a', hfi, hc⟩
    obtain ⟨f, hfa⟩ : ∃ f : Nat → EA, ∀ i, i < len → (f i).fine ∧ w.cells? base (a.add (i * 9)) 9 = some [.int .u8 (f i).d, .int .i64 (f i).n, .int .i64 (f i).m, .int .u8 (f i).c.ch, .bool (f i).c.at_, .int .u8 (f i).c.fa, .int .u8 (f i).c.hi, .int .u8 (f i).c.co, .int .u8 (f i).c.se] := by
      refine ⟨fun i => if h : i < len then (hA i h).choose else ⟨0, 0, 0, C.zero⟩, fun i hil => ?_⟩
      simp only [dif_pos hil]
      exact (hA i hil).choose_spec
    refine ⟨some a, m, (List.range len).map f, by simp, ⟨?_, ?_⟩, by simpa using Nat.le_trans hl hm⟩
    · intro x hx
      obtain ⟨i, hi1, rfl⟩ := List.mem_map.1 hx
      exact (hfa i (by simpa using hi1)).1
    · intro i hil
      have hil' : i < len := by simpa using hil
      obtain ⟨_, hc⟩ := hfa i hil'
      refine ⟨a, rfl, fun W k => ?_⟩
      simp only [List.getElem_map, List.getElem_range]
      obtain ⟨_, _, hat⟩ := World.cells?_some hc
      have hh : ∀ j v, j < 9 → ([.int .u8 (f i).d, .int .i64 (f i).n, .int .i64 (f i).m, .int .u8 (f i).c.ch, .bool (f i).c.at_, .int .u8 (f i).c.fa, .int .u8 (f i).c.hi, .int .u8 (f i).c.co, .int .u8 (f i).c.se])[j]? = some v → W.cell? ((a.add (i * 9)).add j) = some v := by
        intro j v hj hv
        have := hat j hj
        rw [hv] at this
        exact k.cell this
      have ha : ∀ (y : Addr) j, 0 < j → y.add j = ⟨y.block, y.off + j, none⟩ := fun y j hj => by unfold Addr.add; rw [if_neg (by omega)]
      have h1 : ∀ j v, 0 < j → j < 9 → ([.int .u8 (f i).d, .int .i64 (f i).n, .int .i64 (f i).m, .int .u8 (f i).c.ch, .bool (f i).c.at_, .int .u8 (f i).c.fa, .int .u8 (f i).c.hi, .int .u8 (f i).c.co, .int .u8 (f i).c.se])[j]? = some v → W.cell? ⟨(a.add (i * 9)).block, (a.add (i * 9)).off + j, none⟩ = some v := by
        intro j v h0 hj hv
        have := hh j v hj hv
        rw [ha _ j h0] at this
        exact this
      have h00 := hh 0 _ (by decide) rfl
      have ha0 : ∀ (y : Addr), y.add 0 = y := fun y => by unfold Addr.add; rw [if_pos rfl]
      rw [ha0] at h00
      exact ⟨h00, h1 1 _ (by decide) (by decide) rfl, h1 2 _ (by decide) (by decide) rfl, h1 3 _ (by decide) (by decide) rfl, h1 4 _ (by decide) (by decide) rfl, h1 5 _ (by decide) (by decide) rfl, h1 6 _ (by decide) (by decide) rfl, h1 7 _ (by decide) (by decide) rfl, h1 8 _ (by decide) (by decide) rfl⟩
end

end Go.Proofs.Ytangandfgbnomaa.V
