/- Literal acts; arguments that are rows of numbers. -/
import Derived.Test.YtangandfgbnomaaVX
import Derived.Test.YtangandfgbnomaaVXA
namespace Go.Proofs.Ytangandfgbnomaa.V
open Go.RowKit
set_option linter.unusedVariables false
set_option linter.unusedSimpArgs false

/-- The cells of an act without a text. -/
def act11 (a : Ac) : List Value := [.int .u8 a.d, .int .i64 a.n, .bool a.on, .int .u8 a.code, .int .u8 a.c.ch, .bool a.c.at_, .int .u8 a.c.fa, .int .u8 a.c.hi, .int .u8 a.c.co, .int .u8 a.c.se, .slice none 0 0]
def acts11 (us : List Ac) : List Value := us.flatMap act11
theorem acts11_get : ∀ (us : List Ac) (i : Nat) (h : i < us.length) (j : Nat), j < 11 → (acts11 us)[i * 11 + j]? = (act11 us[i])[j]?
  | a :: us, 0, _, j, hj => by
    show (act11 a ++ acts11 us)[0 * 11 + j]? = _
    rw [Nat.zero_mul, Nat.zero_add, List.getElem?_append_left (by simpa [act11] using hj)]; rfl
  | a :: us, i + 1, h, j, hj => by
    show (act11 a ++ acts11 us)[(i + 1) * 11 + j]? = _
    have e : (i + 1) * 11 + j = (act11 a).length + (i * 11 + j) := by simp [act11]; omega
    rw [e, List.getElem?_append_right (by omega), Nat.add_sub_cancel_left, acts11_get us i (by simpa using h) j hj]
    rfl
/-- A literal row of acts without texts. -/
theorem acts_blk {w : World} {g : Nat} {us : List Ac} (h : Blk w g (acts11 us) 67) (hf : ∀ a ∈ us, a.fine) (ht : ∀ a ∈ us, a.tx = []) : Acts w (some ⟨g, 0, none⟩) us := by
  refine ⟨hf, fun i hi => ⟨⟨g, 0, none⟩, none, 0, rfl, fun W k => ?_⟩⟩
  have hB := h.keep k (by simp)
  have hx : us[i].tx = [] := ht _ (List.getElem_mem hi)
  have g1 : ∀ j, j < 11 → W.cell? ⟨g, i * 11 + j, none⟩ = (act11 us[i])[j]? := fun j hj => by rw [hB.cell, acts11_get us i hi j hj]
  have e0 : Addr.add ⟨g, 0, none⟩ (i * 11) = ⟨g, i * 11, none⟩ := by
    unfold Addr.add
    split
    · rename_i h0; rw [h0]
    · simp
  rw [e0, hx]
  refine ⟨fun j h0 h1 => absurd h1 (by simp; omega), g1 0 (by decide), g1 1 (by decide), g1 2 (by decide), g1 3 (by decide), g1 4 (by decide), g1 5 (by decide), g1 6 (by decide), g1 7 (by decide), g1 8 (by decide), g1 9 (by decide), g1 10 (by decide)⟩

theorem acts_ok {us : List Ac} {M : Int} {ta : Option Addr} {w : World} (hA : Acts w ta us) (hM : 2 ≤ M ∧ M ≤ 5) (k : Nat) : ((S.clr M false).acts (us.take k)).ok :=
  S.ok.acts _ (S.clr_ok M false hM) hM (fun y hy => hA.1 y (List.mem_of_mem_take hy))
/-- A row of numbers that came in. -/
def Ints (w : World) (ta : Option Addr) (l : List Int) : Prop := ∀ i, i < l.length → ∃ x, ta = some x ∧ ∀ W, Keep [] w W → W.cell? (x.add i) = some (.int .i64 (l.getD i 0))
section
open Go.ChangeShapes Go.WideShapes Go.ChangeAt Go.Joins
variable {H : Type} {enc : TypeId × Value → H} {w : World} {base : Nat} {held : Bool}
set_option maxRecDepth 100000 in
theorem open_row79 {r : Reach} {b0 : Nat} {v : Value} {d : DataW H} {p : List MemPlace} (hv : Value.okWide Try.prog w r b0 79 v) (h : DataW.Trod enc Try.prog w base (fun _ => true) held 79 v d p) :
    ∃ (ta : Option Addr) (cap : Nat) (l : List Int), v = .slice ta l.length cap ∧ Ints w ta l ∧ l.length ≤ maxLen := by
  obtain ⟨ta, len, cap, rfl⟩ := okWide_slice Try.underlying79 hv
  obtain ⟨fuel, hf⟩ := h
  rcases open_ints Try.underlying79 Try.underlying3 (by kernel_rfl) hf with ⟨hcs, _⟩ | ⟨tx, len', cap', zs, hcs, _, hl2, hm, hz, _, hcell, hwz⟩
  · simp [Value.cells] at hcs
    obtain ⟨rfl, rfl, rfl⟩ := hcs
    exact ⟨none, 0, [], rfl, fun i hi => by simp at hi, Nat.zero_le _⟩
  · simp [Value.cells] at hcs
    obtain ⟨rfl, rfl, rfl⟩ := hcs
    simp only [if_true] at hz
    have hlen : (zs.take len).length = len := by rw [List.length_take]; omega
    refine ⟨some tx, cap, zs.take len, by rw [hlen], fun i hi => ⟨tx, rfl, fun W k => ?_⟩, by rw [hlen]; omega⟩
    rw [hlen] at hi
    have := k.cell (hcell i (by omega))
    rw [this]
    congr 2
    rw [List.getD_eq_getElem?_getD, List.getD_eq_getElem?_getD, List.getElem?_take_of_lt (by omega)]
end


end Go.Proofs.Ytangandfgbnomaa.V
