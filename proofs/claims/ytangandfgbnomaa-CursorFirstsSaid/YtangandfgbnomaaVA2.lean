/- The contracts of addr's functions and of the reference's, in the plain words of VA. -/
import Derived.Test.YtangandfgbnomaaVA
import Derived.Deep.QuietTactic
import Derived.BigQuiet
namespace Go.Proofs.Ytangandfgbnomaa.V
open Go.RowKit Go.Proofs.YtangandfgbnomaaW.PrintWords Go.Proofs.YtangandfgbnomaaW.PrintLast Go.Proofs.YtangandfgbnomaaW.PrintMore
variable (R C n a b : Int) (w : World)

/-- A size, by value. -/
abbrev sz (R C : Int) : Value := .agg #[.int .i64 R, .int .i64 C]

theorem c_valid : Calls Try.prog 30 #[sz R C] w fun e w' => e = .returned (.bool (vld R C)) ∧ Below w.heap.size w w' := addr_Size_Valid.calls _ _ _ _ (valid_f R C)
theorem c_cells : Calls Try.prog 33 #[sz R C] w fun e w' => e = .returned (.int .i64 (cel R C)) ∧ Below w.heap.size w w' := addr_Size_Cells.calls _ _ _ _ (cells_f R C)
theorem c_wrap : Calls Try.prog 32 #[sz R C, .int .i64 n] w fun e w' => e = .returned (.int .i64 (wrp R C n)) ∧ Below w.heap.size w w' := addr_Size_Wrap.calls _ _ _ _ _ (wrap_f R C n)
theorem c_at : Calls Try.prog 49 #[sz R C, .int .i64 a, .int .i64 b] w fun e w' => e = .returned (.int .i64 (att R C a b)) ∧ Below w.heap.size w w' := addr_Size_At.calls _ _ _ _ _ _ (at_f R C a b)
theorem c_row : Calls Try.prog 35 #[sz R C, .int .i64 n] w fun e w' => e = .returned (.int .i64 (row R C n)) ∧ Below w.heap.size w w' := addr_Size_Row.calls _ _ _ _ _ (row_f R C n)
theorem c_col : Calls Try.prog 34 #[sz R C, .int .i64 n] w fun e w' => e = .returned (.int .i64 (col R C n)) ∧ Below w.heap.size w w' := addr_Size_Col.calls _ _ _ _ _ (col_f R C n)
theorem c_move : Calls Try.prog 31 #[sz R C, .int .i64 n, .int .i64 a, .int .i64 b] w fun e w' => e = .returned (.int .i64 (mov R C n a b)) ∧ Below w.heap.size w w' := addr_Size_Move.calls _ _ _ _ _ _ _ (move_f R C n a b)
theorem c_line : Calls Try.prog 52 #[sz R C, .int .i64 n] w fun e w' => e = .returned (.int .i64 (lin R C n)) ∧ Below w.heap.size w w' := addr_Size_Line.calls _ _ _ _ _ (line_f R C n)
theorem c_length : Calls Try.prog 81 #[sz R C, .int .i64 a, .int .i64 b] w fun e w' => e = .returned (.int .i64 (len R C a b)) ∧ Below w.heap.size w w' := addr_Size_Length.calls _ _ _ _ _ _ (length_f R C a b)
theorem r_valid : Calls Try.prog 46 #[sz R C] w fun e w' => e = .returned (.bool (vld R C)) ∧ Below w.heap.size w w' := vitrineref04_Valid.calls _ _ _ _ (rvalid_f R C)
theorem r_cells : Calls Try.prog 47 #[sz R C] w fun e w' => e = .returned (.int .i64 (cel R C)) ∧ Below w.heap.size w w' := vitrineref04_Cells.calls _ _ _ _ (rcells_f R C)
theorem r_wrap : Calls Try.prog 48 #[sz R C, .int .i64 n] w fun e w' => e = .returned (.int .i64 (wrp R C n)) ∧ Below w.heap.size w w' := vitrineref04_Wrap.calls _ _ _ _ _ (rwrap_f R C n)
theorem r_at : Calls Try.prog 50 #[sz R C, .int .i64 a, .int .i64 b] w fun e w' => e = .returned (.int .i64 (att R C a b)) ∧ Below w.heap.size w w' := vitrineref04_At.calls _ _ _ _ _ _ (rat_f R C a b)
theorem r_move : Calls Try.prog 51 #[sz R C, .int .i64 n, .int .i64 a, .int .i64 b] w fun e w' => e = .returned (.int .i64 (mov R C n a b)) ∧ Below w.heap.size w w' := vitrineref04_Move.calls _ _ _ _ _ _ _ (rmove_f R C n a b)

theorem bcell {W w1 : World} (hb : Below W.heap.size W w1) : (∀ b o, b < W.heap.size → w1.cell? ⟨b, o, none⟩ = W.cell? ⟨b, o, none⟩) ∧ (∀ b o, b < W.heap.size → w1.frozen? ⟨b, o, none⟩ = W.frozen? ⟨b, o, none⟩) :=
  ⟨fun b o h => hb.cell (p := ⟨b, o, none⟩) h, fun b o h => hb.frozen (p := ⟨b, o, none⟩) h⟩

/-- What a call leaves that has turned nothing: old cells, old marks, the heap's size. -/
theorem after {W w1 : World} (hb : Below W.heap.size W w1) : (∀ b o, b < W.heap.size → w1.cell? ⟨b, o, none⟩ = W.cell? ⟨b, o, none⟩) ∧ (∀ b o, b < W.heap.size → w1.frozen? ⟨b, o, none⟩ = W.frozen? ⟨b, o, none⟩) ∧ W.heap.size ≤ w1.heap.size :=
  ⟨fun b o h => hb.cell (p := ⟨b, o, none⟩) h, fun b o h => hb.frozen (p := ⟨b, o, none⟩) h, hb.size⟩

/-- One operation of a quiet walk that reads: the value that it yields in every world of the class. -/
theorem quiet_of {P : Program} {K₀ : World → Prop} {o : Oper} {a : Act} {K : Act → Prop} {v : Value} (h : ∀ W, K₀ W → (execOp a.eval o).run P W = .ok (.value v) W) (hk : K (a.put o.dst v)) : o.quiet P a K₀ K :=
  ⟨v, fun W hW => by unfold Oper.quietAt; rw [h W hW]; exact ⟨rfl, rfl⟩, hk⟩


end Go.Proofs.Ytangandfgbnomaa.V
