/- Of no space: what the program's functions answer. -/
import Derived.Test.YtangandfgbnomaaVR1
import Derived.Test.YtangandfgbnomaaVZ5
namespace Go.Proofs.Ytangandfgbnomaa.V
open Go.RowKit Go.Shelf
set_option linter.unusedVariables false
set_option linter.unusedSimpArgs false


theorem nil_eq : ∀ (w : World), Sem.run Try.prog (binOp .eql 61 (.pointer none) (.pointer none)) w = .ok (.bool true) w := fun _ => by kernel_rfl
theorem nil_ne : ∀ (w : World), Sem.run Try.prog (binOp .neq 61 (.pointer none) (.pointer none)) w = .ok (.bool false) w := fun _ => by kernel_rfl
theorem nil_ps : ∀ (a : Addr) (w : World), Sem.run Try.prog (binOp .eql 61 (.pointer none) (.pointer (some a))) w = .ok (.bool false) w := fun _ _ => by kernel_rfl
theorem nil_sp : ∀ (a : Addr) (w : World), Sem.run Try.prog (binOp .eql 61 (.pointer (some a)) (.pointer none)) w = .ok (.bool false) w := fun _ _ => by kernel_rfl
theorem vld0 : vld 0 0 = false := by decide
abbrev zv : Value := .agg #[.int .u8 0, .bool false, .int .u8 0, .int .u8 0, .int .u8 0, .int .u8 0]
theorem n_cells (w : World) : Calls Try.prog 33 #[.agg #[.int .i64 0, .int .i64 0]] w fun e w' => e = .returned (.int .i64 0) ∧ Below w.heap.size w w' := by
  have := c_cells 0 0 w
  rw [show cel 0 0 = 0 by unfold cel; rw [if_neg (by rw [vld0]; simp)]] at this; exact this
theorem n_wrap (n : Int) (w : World) : Calls Try.prog 32 #[.agg #[.int .i64 0, .int .i64 0], .int .i64 n] w fun e w' => e = .returned (.int .i64 0) ∧ Below w.heap.size w w' := by
  have := c_wrap 0 0 n w
  rw [show wrp 0 0 n = 0 by unfold wrp; rw [if_neg (by rw [vld0]; simp)]] at this; exact this
theorem n_line (n : Int) (w : World) : Calls Try.prog 52 #[.agg #[.int .i64 0, .int .i64 0], .int .i64 n] w fun e w' => e = .returned (.int .i64 0) ∧ Below w.heap.size w w' := by
  have := c_line 0 0 n w
  rw [show lin 0 0 n = 0 by unfold lin; rw [if_neg (by rw [vld0]; simp)]] at this; exact this
theorem n_move (n a b : Int) (w : World) : Calls Try.prog 31 #[.agg #[.int .i64 0, .int .i64 0], .int .i64 n, .int .i64 a, .int .i64 b] w fun e w' => e = .returned (.int .i64 0) ∧ Below w.heap.size w w' := by
  have := c_move 0 0 n a b w
  rw [show mov 0 0 n a b = 0 by unfold mov; rw [if_neg (by rw [vld0]; simp)]] at this; exact this
theorem field103_nil : ∀ (w : World), Sem.run Try.prog (Instr.field 60 (.agg #[.int .u8 0, .bool false, .int .u8 0, .int .u8 0, .int .u8 0, .int .u8 0]) 1) w = .ok (.bool false) w := fun _ => by kernel_rfl

set_option maxRecDepth 100000 in
theorem n57 (w : World) : Calls Try.prog 57 #[.pointer none] w fun e w' => e = .returned (.agg #[.int .i64 0, .int .i64 0]) ∧ Below w.heap.size w w' := by
  have r1 := nil_eq
  have r2 := nil_ne
  have r3 := nil_ps
  have r4 := nil_sp
  have k0 : Keep [] w w := Keep.refl [] w
  go_enter Try.func57, Try.ntmps57
  go_wp2
  refine bodyPost_ret (v := .agg #[.int .i64 0, .int .i64 0]) ?_ rfl ⟨rfl, ?_⟩
  · simp only [results, Try.results57]
    go_simp
  · exact Keep.below (by repeat (first | assumption | apply Keep.alloc | apply Keep.drew | exact Keep.refl _ _))

set_option maxRecDepth 100000 in
theorem n58 (n : Int) (w : World) : Calls Try.prog 58 #[.pointer none, .int .i64 n] w fun e w' => e = .returned (zv) ∧ Below w.heap.size w w' := by
  have r1 := nil_eq
  have r2 := nil_ne
  have r3 := nil_ps
  have r4 := nil_sp
  have k0 : Keep [] w w := Keep.refl [] w
  go_enter Try.func58, Try.ntmps58
  go_wp2
  refine bodyPost_ret (v := zv) ?_ rfl ⟨rfl, ?_⟩
  · simp only [results, Try.results58]
    go_simp
  · exact Keep.below (by repeat (first | assumption | apply Keep.alloc | apply Keep.drew | exact Keep.refl _ _))

set_option maxRecDepth 100000 in
theorem n59 (n : Int) (c : C) (w : World) : Calls Try.prog 59 #[.pointer none, .int .i64 n, .agg #[.int .u8 c.ch, .bool c.at_, .int .u8 c.fa, .int .u8 c.hi, .int .u8 c.co, .int .u8 c.se]] w fun e w' => e = .returned (.tuple #[]) ∧ Below w.heap.size w w' := by
  have r1 := nil_eq
  have r2 := nil_ne
  have r3 := nil_ps
  have r4 := nil_sp
  have k0 : Keep [] w w := Keep.refl [] w
  go_enter Try.func59, Try.ntmps59
  go_wp2
  refine bodyPost_ret (results_none rfl _ _ _) rfl ?_
  exact ⟨rfl, Keep.below (by repeat (first | assumption | apply Keep.alloc | apply Keep.drew | exact Keep.refl _ _))⟩

set_option maxRecDepth 100000 in
theorem n60 (n : Int) (w : World) : Calls Try.prog 60 #[.pointer none, .int .i64 n] w fun e w' => e = .returned (.tuple #[]) ∧ Below w.heap.size w w' := by
  have r1 := nil_eq
  have r2 := nil_ne
  have r3 := nil_ps
  have r4 := nil_sp
  have k0 : Keep [] w w := Keep.refl [] w
  go_enter Try.func60, Try.ntmps60
  go_wp2
  go_end0
  exact ⟨rfl, Keep.below (by repeat (first | assumption | apply Keep.alloc | apply Keep.drew | exact Keep.refl _ _))⟩

set_option maxRecDepth 100000 in
theorem n61 (w : World) : Calls Try.prog 61 #[.pointer none] w fun e w' => e = .returned (.pointer none) ∧ Below w.heap.size w w' := by
  have r1 := nil_eq
  have r2 := nil_ne
  have r3 := nil_ps
  have r4 := nil_sp
  have k0 : Keep [] w w := Keep.refl [] w
  go_enter Try.func61, Try.ntmps61
  go_wp2
  go_ret
  exact ⟨rfl, Keep.below (by repeat (first | assumption | apply Keep.alloc | apply Keep.drew | exact Keep.refl _ _))⟩

set_option maxRecDepth 100000 in
theorem n62 (n x : Int) (w : World) : Calls Try.prog 62 #[.pointer none, .int .i64 n, .int .u8 x] w fun e w' => e = .returned (.tuple #[]) ∧ Below w.heap.size w w' := by
  have r1 := nil_eq
  have r2 := nil_ne
  have r3 := nil_ps
  have r4 := nil_sp
  have k0 : Keep [] w w := Keep.refl [] w
  go_enter Try.func62, Try.ntmps62
  go_wp2
  refine bodyPost_ret (results_none rfl _ _ _) rfl ?_
  exact ⟨rfl, Keep.below (by repeat (first | assumption | apply Keep.alloc | apply Keep.drew | exact Keep.refl _ _))⟩

set_option maxRecDepth 100000 in
theorem n64 (w : World) : Calls Try.prog 64 #[.pointer none] w fun e w' => e = .returned (.int .i64 0) ∧ Below w.heap.size w w' := by
  have r1 := nil_eq
  have r2 := nil_ne
  have r3 := nil_ps
  have r4 := nil_sp
  have k0 : Keep [] w w := Keep.refl [] w
  go_enter Try.func64, Try.ntmps64
  go_wp2
  go_ret
  exact ⟨rfl, Keep.below (by repeat (first | assumption | apply Keep.alloc | apply Keep.drew | exact Keep.refl _ _))⟩

set_option maxRecDepth 100000 in
theorem n99 (b : Bool) (w : World) : Calls Try.prog 99 #[.pointer none, .bool b] w fun e w' => e = .returned (.tuple #[]) ∧ Below w.heap.size w w' := by
  have r1 := nil_eq
  have r2 := nil_ne
  have r3 := nil_ps
  have r4 := nil_sp
  have k0 : Keep [] w w := Keep.refl [] w
  go_enter Try.func99, Try.ntmps99
  go_wp2
  refine bodyPost_ret (results_none rfl _ _ _) rfl ?_
  exact ⟨rfl, Keep.below (by repeat (first | assumption | apply Keep.alloc | apply Keep.drew | exact Keep.refl _ _))⟩

set_option maxRecDepth 100000 in
theorem n101 (w : World) : Calls Try.prog 101 #[.pointer none] w fun e w' => e = .returned (.int .i64 0) ∧ Below w.heap.size w w' := by
  have r1 := nil_eq
  have r2 := nil_ne
  have r3 := nil_ps
  have r4 := nil_sp
  have k0 : Keep [] w w := Keep.refl [] w
  go_enter Try.func101, Try.ntmps101
  go_wp2
  go_ret
  exact ⟨rfl, Keep.below (by repeat (first | assumption | apply Keep.alloc | apply Keep.drew | exact Keep.refl _ _))⟩

set_option maxRecDepth 100000 in
theorem n102 (w : World) : Calls Try.prog 102 #[.pointer none] w fun e w' => e = .returned (.bool false) ∧ Below w.heap.size w w' := by
  have r1 := nil_eq
  have r2 := nil_ne
  have r3 := nil_ps
  have r4 := nil_sp
  have k0 : Keep [] w w := Keep.refl [] w
  go_enter Try.func102, Try.ntmps102
  go_wp2
  go_ret
  exact ⟨rfl, Keep.below (by repeat (first | assumption | apply Keep.alloc | apply Keep.drew | exact Keep.refl _ _))⟩

set_option maxRecDepth 100000 in
theorem n103 (w : World) : Calls Try.prog 103 #[.pointer none] w fun e w' => e = .returned (.bool false) ∧ Below w.heap.size w w' := by
  have r1 := nil_eq
  have r2 := nil_ne
  have r3 := nil_ps
  have r4 := nil_sp
  have k0 : Keep [] w w := Keep.refl [] w
  go_enter Try.func103, Try.ntmps103
  go_wp2
  go_ret
  exact ⟨rfl, Keep.below (by repeat (first | assumption | apply Keep.alloc | apply Keep.drew | exact Keep.refl _ _))⟩

set_option maxRecDepth 100000 in
theorem n87 (n : Int) (w : World) : Calls Try.prog 87 #[.pointer none, .int .i64 n] w fun e w' => e = .returned (.int .i64 (-1)) ∧ Below w.heap.size w w' := by
  have r1 := nil_eq
  have r2 := nil_ne
  have r3 := nil_ps
  have r4 := nil_sp
  have k0 : Keep [] w w := Keep.refl [] w
  go_enter Try.func87, Try.ntmps87
  go_wp2_with (first
    | (go_at_call 103; (with_reducible refine (n103 _).mono ?_); rintro e w1 ⟨rfl, hb1⟩; have k1 : Keep [] w w1 := Keep.call (by repeat (first | assumption | apply Keep.alloc | apply Keep.drew | exact Keep.refl _ _)) hb1))
  go_ret
  exact ⟨rfl, Keep.below (by repeat (first | assumption | apply Keep.alloc | apply Keep.drew | exact Keep.refl _ _))⟩

set_option maxRecDepth 100000 in
theorem n86 (n : Int) (w : World) : Calls Try.prog 86 #[.pointer none, .int .i64 n] w fun e w' => e = .returned (.tuple #[.agg #[.bool false, .bool false, .int .i64 0, .bool false], .bool false]) ∧ Below w.heap.size w w' := by
  have k0 : Keep [] w w := Keep.refl _ _
  go_enter Try.func86, Try.ntmps86
  go_wp2_with (first
    | (go_at_call 87; (with_reducible refine (n87 n _).mono ?_); rintro e w1 ⟨rfl, hb1⟩; have k1 := (k0.alloc _).call hb1
       have bb := (Blk.new w [.bool false, .bool false, .int .i64 0, .bool false] 103).call hb1; have d0 := bb.cell 0; have d1 := bb.cell 1; have d2 := bb.cell 2; have d3 := bb.cell 3; have df := bb.frozen; have dl := bb.lt; simp only [List.getElem?_cons_succ, List.getElem?_cons_zero] at d0 d1 d2 d3))
  refine bodyPost_ret (v := .tuple #[fld0, .bool false]) ?_ rfl ⟨rfl, ?_⟩
  · simp only [results, Try.results86]
    go_simp
  · exact ((((k1.setCell (p := ⟨w.heap.size, 0, none⟩) (.inr (Nat.le_refl _)) _).setCell (p := ⟨w.heap.size, 1, none⟩) (.inr (Nat.le_refl _)) _).setCell (p := ⟨w.heap.size, 2, none⟩) (.inr (Nat.le_refl _)) _).setCell (p := ⟨w.heap.size, 3, none⟩) (.inr (Nat.le_refl _)) _).below

set_option maxRecDepth 100000 in
theorem n89 (n : Int) (w : World) : Calls Try.prog 89 #[.pointer none, .int .i64 n] w fun e w' => e = .returned (.bool false) ∧ Below w.heap.size w w' := by
  have r1 := nil_eq
  have r2 := nil_ne
  have r3 := nil_ps
  have r4 := nil_sp
  have k0 : Keep [] w w := Keep.refl [] w
  go_enter Try.func89, Try.ntmps89
  go_wp2_with (first
    | (go_at_call 86; (with_reducible refine (n86 n _).mono ?_); rintro e w1 ⟨rfl, hb1⟩; have k1 : Keep [] w w1 := Keep.call (by repeat (first | assumption | apply Keep.alloc | apply Keep.drew | exact Keep.refl _ _)) hb1))
  go_ret
  exact ⟨rfl, Keep.below (by repeat (first | assumption | apply Keep.alloc | apply Keep.drew | exact Keep.refl _ _))⟩

set_option maxRecDepth 100000 in
theorem n153 (n st : Int) (w : World) : Calls Try.prog 153 #[.pointer none, .int .i64 n, .int .i64 st] w fun e w' => e = .returned (.int .i64 (-1)) ∧ Below w.heap.size w w' := by
  have k0 : Keep [] w w := Keep.refl [] w
  go_enter Try.func153, Try.ntmps153
  go_wp2_with (first
    | (go_at_call 57; (with_reducible refine (n57 _).mono ?_); rintro e w1 ⟨rfl, hb1⟩; have k1 := k0.call hb1)
    | (go_at_call 33; (with_reducible refine (n_cells _).mono ?_); rintro e w2 ⟨rfl, hb2⟩; have K2 := Aside0.mk (Keep.call (show Keep [] w _ from (by repeat (first | assumption | apply Keep.alloc | apply Keep.drew | exact Keep.refl _ _))) hb2)))
  go_loopg [12] 1 (fun kq v w' => v = .int .i64 0 ∧ Aside0 (Keep [] w w'))
  case atStart => exact ⟨rfl, K2⟩
  case round =>
    obtain ⟨rfl, HK⟩ := hrel
    go_wp2
    go_ret
    exact ⟨rfl, HK.out.below⟩

set_option maxRecDepth 100000 in
theorem n69 (n : Int) (w : World) : Calls Try.prog 69 #[.pointer none, .int .i64 n] w fun e w' => e = .returned (.int .i64 (-1)) ∧ Below w.heap.size w w' := by
  have r1 := nil_eq
  have r2 := nil_ne
  have r3 := nil_ps
  have r4 := nil_sp
  have k0 : Keep [] w w := Keep.refl [] w
  go_enter Try.func69, Try.ntmps69
  go_wp2_with (first
    | (go_at_call 57; (with_reducible refine (n57 _).mono ?_); rintro e w1 ⟨rfl, hb1⟩; have k1 : Keep [] w w1 := Keep.call (by repeat (first | assumption | apply Keep.alloc | apply Keep.drew | exact Keep.refl _ _)) hb1)
    | (go_at_call 32; (with_reducible refine (n_wrap n _).mono ?_); rintro e w2 ⟨rfl, hb2⟩; have k2 : Keep [] w w2 := Keep.call (by repeat (first | assumption | apply Keep.alloc | apply Keep.drew | exact Keep.refl _ _)) hb2)
    | (go_at_call 153; (with_reducible refine (n153 _ _ _).mono ?_); rintro e w3 ⟨rfl, hb3⟩; have k3 : Keep [] w w3 := Keep.call (by repeat (first | assumption | apply Keep.alloc | apply Keep.drew | exact Keep.refl _ _)) hb3))
  go_ret
  exact ⟨rfl, Keep.below (by repeat (first | assumption | apply Keep.alloc | apply Keep.drew | exact Keep.refl _ _))⟩

set_option maxRecDepth 100000 in
theorem n70 (n : Int) (w : World) : Calls Try.prog 70 #[.pointer none, .int .i64 n] w fun e w' => e = .returned (.int .i64 (-1)) ∧ Below w.heap.size w w' := by
  have r1 := nil_eq
  have r2 := nil_ne
  have r3 := nil_ps
  have r4 := nil_sp
  have k0 : Keep [] w w := Keep.refl [] w
  go_enter Try.func70, Try.ntmps70
  go_wp2_with (first
    | (go_at_call 57; (with_reducible refine (n57 _).mono ?_); rintro e w1 ⟨rfl, hb1⟩; have k1 : Keep [] w w1 := Keep.call (by repeat (first | assumption | apply Keep.alloc | apply Keep.drew | exact Keep.refl _ _)) hb1)
    | (go_at_call 32; (with_reducible refine (n_wrap n _).mono ?_); rintro e w2 ⟨rfl, hb2⟩; have k2 : Keep [] w w2 := Keep.call (by repeat (first | assumption | apply Keep.alloc | apply Keep.drew | exact Keep.refl _ _)) hb2)
    | (go_at_call 153; (with_reducible refine (n153 _ _ _).mono ?_); rintro e w3 ⟨rfl, hb3⟩; have k3 : Keep [] w w3 := Keep.call (by repeat (first | assumption | apply Keep.alloc | apply Keep.drew | exact Keep.refl _ _)) hb3))
  go_ret
  exact ⟨rfl, Keep.below (by repeat (first | assumption | apply Keep.alloc | apply Keep.drew | exact Keep.refl _ _))⟩

set_option maxRecDepth 100000 in
theorem n74 (n : Int) (w : World) : Calls Try.prog 74 #[.pointer none, .int .i64 n] w fun e w' => e = .returned (.int .i64 0) ∧ Below w.heap.size w w' := by
  have r1 := nil_eq
  have r2 := nil_ne
  have r3 := nil_ps
  have r4 := nil_sp
  have k0 : Keep [] w w := Keep.refl [] w
  have mx := max_zero (-1)
  simp only [show ((-1 : Int) < 0) = True by simp, if_true] at mx
  go_enter Try.func74, Try.ntmps74
  go_wp2_with (first
    | (go_at_call 89; (with_reducible refine (n89 n _).mono ?_); rintro e w1 ⟨rfl, hb1⟩; have k1 : Keep [] w w1 := Keep.call (by repeat (first | assumption | apply Keep.alloc | apply Keep.drew | exact Keep.refl _ _)) hb1)
    | (go_at_call 69; (with_reducible refine (n69 n _).mono ?_); rintro e w2 ⟨rfl, hb2⟩; have k2 : Keep [] w w2 := Keep.call (by repeat (first | assumption | apply Keep.alloc | apply Keep.drew | exact Keep.refl _ _)) hb2))
  go_ret
  exact ⟨rfl, Keep.below (by repeat (first | assumption | apply Keep.alloc | apply Keep.drew | exact Keep.refl _ _))⟩

set_option maxRecDepth 100000 in
theorem n96 (w : World) : Calls Try.prog 96 #[.pointer none] w fun e w' => e = .returned (.tuple #[]) ∧ Below w.heap.size w w' := by
  have r1 := nil_eq
  have r2 := nil_ne
  have r3 := nil_ps
  have r4 := nil_sp
  have k0 : Keep [] w w := Keep.refl [] w
  have mx := max_zero (-1)
  simp only [show ((-1 : Int) < 0) = True by simp, if_true] at mx
  go_enter Try.func96, Try.ntmps96
  go_wp2_with (first
    | (go_at_call 64; (with_reducible refine (n64 _).mono ?_); rintro e w1 ⟨rfl, hb1⟩; have k1 : Keep [] w w1 := Keep.call (by repeat (first | assumption | apply Keep.alloc | apply Keep.drew | exact Keep.refl _ _)) hb1)
    | (go_at_call 69; (with_reducible refine (n69 _ _).mono ?_); rintro e w2 ⟨rfl, hb2⟩; have k2 : Keep [] w w2 := Keep.call (by repeat (first | assumption | apply Keep.alloc | apply Keep.drew | exact Keep.refl _ _)) hb2)
    | (go_at_call 60; (with_reducible refine (n60 _ _).mono ?_); rintro e w3 ⟨rfl, hb3⟩; have k3 : Keep [] w w3 := Keep.call (by repeat (first | assumption | apply Keep.alloc | apply Keep.drew | exact Keep.refl _ _)) hb3))
  go_end0
  exact ⟨rfl, Keep.below (by repeat (first | assumption | apply Keep.alloc | apply Keep.drew | exact Keep.refl _ _))⟩

set_option maxRecDepth 100000 in
theorem n98 (w : World) : Calls Try.prog 98 #[.pointer none] w fun e w' => e = .returned (.tuple #[]) ∧ Below w.heap.size w w' := by
  have r1 := nil_eq
  have r2 := nil_ne
  have r3 := nil_ps
  have r4 := nil_sp
  have k0 : Keep [] w w := Keep.refl [] w
  have mx := max_zero (-1)
  simp only [show ((-1 : Int) < 0) = True by simp, if_true] at mx
  go_enter Try.func98, Try.ntmps98
  go_wp2_with (first
    | (go_at_call 64; (with_reducible refine (n64 _).mono ?_); rintro e w1 ⟨rfl, hb1⟩; have k1 : Keep [] w w1 := Keep.call (by repeat (first | assumption | apply Keep.alloc | apply Keep.drew | exact Keep.refl _ _)) hb1)
    | (go_at_call 70; (with_reducible refine (n70 _ _).mono ?_); rintro e w2 ⟨rfl, hb2⟩; have k2 : Keep [] w w2 := Keep.call (by repeat (first | assumption | apply Keep.alloc | apply Keep.drew | exact Keep.refl _ _)) hb2)
    | (go_at_call 60; (with_reducible refine (n60 _ _).mono ?_); rintro e w3 ⟨rfl, hb3⟩; have k3 : Keep [] w w3 := Keep.call (by repeat (first | assumption | apply Keep.alloc | apply Keep.drew | exact Keep.refl _ _)) hb3))
  go_end0
  exact ⟨rfl, Keep.below (by repeat (first | assumption | apply Keep.alloc | apply Keep.drew | exact Keep.refl _ _))⟩

set_option maxRecDepth 100000 in
theorem n76 (w : World) : Calls Try.prog 76 #[.pointer none] w fun e w' => e = .returned (.tuple #[]) ∧ Below w.heap.size w w' := by
  have r1 := nil_eq
  have r2 := nil_ne
  have r3 := nil_ps
  have r4 := nil_sp
  have k0 : Keep [] w w := Keep.refl [] w
  go_enter Try.func76, Try.ntmps76
  go_wp2_with (first
    | (go_at_call 74; (with_reducible refine (n74 _ _).mono ?_); rintro e w1 ⟨rfl, hb1⟩; have k1 : Keep [] w w1 := Keep.call (by repeat (first | assumption | apply Keep.alloc | apply Keep.drew | exact Keep.refl _ _)) hb1)
    | (go_at_call 60; (with_reducible refine (n60 _ _).mono ?_); rintro e w2 ⟨rfl, hb2⟩; have k2 : Keep [] w w2 := Keep.call (by repeat (first | assumption | apply Keep.alloc | apply Keep.drew | exact Keep.refl _ _)) hb2))
  go_end0
  exact ⟨rfl, Keep.below (by repeat (first | assumption | apply Keep.alloc | apply Keep.drew | exact Keep.refl _ _))⟩

set_option maxRecDepth 100000 in
theorem n123 (w : World) : Calls Try.prog 123 #[.pointer none] w fun e w' => e = .returned (.tuple #[]) ∧ Below w.heap.size w w' := by
  have r1 := nil_eq
  have r2 := nil_ne
  have r3 := nil_ps
  have r4 := nil_sp
  have k0 : Keep [] w w := Keep.refl [] w
  go_enter Try.func123, Try.ntmps123
  go_wp2_with (first
    | (go_at_call 57; (with_reducible refine (n57 _).mono ?_); rintro e w1 ⟨rfl, hb1⟩; have k1 : Keep [] w w1 := Keep.call (by repeat (first | assumption | apply Keep.alloc | apply Keep.drew | exact Keep.refl _ _)) hb1)
    | (go_at_call 64; (with_reducible refine (n64 _).mono ?_); rintro e w2 ⟨rfl, hb2⟩; have k2 : Keep [] w w2 := Keep.call (by repeat (first | assumption | apply Keep.alloc | apply Keep.drew | exact Keep.refl _ _)) hb2)
    | (go_at_call 52; (with_reducible refine (n_line _ _).mono ?_); rintro e w3 ⟨rfl, hb3⟩; have k3 : Keep [] w w3 := Keep.call (by repeat (first | assumption | apply Keep.alloc | apply Keep.drew | exact Keep.refl _ _)) hb3)
    | (go_at_call 74; (with_reducible refine (n74 _ _).mono ?_); rintro e w4 ⟨rfl, hb4⟩; have k4 : Keep [] w w4 := Keep.call (by repeat (first | assumption | apply Keep.alloc | apply Keep.drew | exact Keep.refl _ _)) hb4)
    | (go_at_call 60; (with_reducible refine (n60 _ _).mono ?_); rintro e w5 ⟨rfl, hb5⟩; have k5 : Keep [] w w5 := Keep.call (by repeat (first | assumption | apply Keep.alloc | apply Keep.drew | exact Keep.refl _ _)) hb5))
  go_end0
  exact ⟨rfl, Keep.below (by repeat (first | assumption | apply Keep.alloc | apply Keep.drew | exact Keep.refl _ _))⟩

set_option maxRecDepth 100000 in
theorem n124 (a b : Int) (w : World) : Calls Try.prog 124 #[.pointer none, .int .i64 a, .int .i64 b] w fun e w' => e = .returned (.tuple #[]) ∧ Below w.heap.size w w' := by
  have r1 := nil_eq
  have r2 := nil_ne
  have r3 := nil_ps
  have r4 := nil_sp
  have k0 : Keep [] w w := Keep.refl [] w
  go_enter Try.func124, Try.ntmps124
  go_wp2_with (first
    | (go_at_call 57; (with_reducible refine (n57 _).mono ?_); rintro e w1 ⟨rfl, hb1⟩; have k1 : Keep [] w w1 := Keep.call (by repeat (first | assumption | apply Keep.alloc | apply Keep.drew | exact Keep.refl _ _)) hb1)
    | (go_at_call 64; (with_reducible refine (n64 _).mono ?_); rintro e w2 ⟨rfl, hb2⟩; have k2 : Keep [] w w2 := Keep.call (by repeat (first | assumption | apply Keep.alloc | apply Keep.drew | exact Keep.refl _ _)) hb2)
    | (go_at_call 31; (with_reducible refine (n_move _ _ _ _).mono ?_); rintro e w3 ⟨rfl, hb3⟩; have k3 : Keep [] w w3 := Keep.call (by repeat (first | assumption | apply Keep.alloc | apply Keep.drew | exact Keep.refl _ _)) hb3)
    | (go_at_call 60; (with_reducible refine (n60 _ _).mono ?_); rintro e w4 ⟨rfl, hb4⟩; have k4 : Keep [] w w4 := Keep.call (by repeat (first | assumption | apply Keep.alloc | apply Keep.drew | exact Keep.refl _ _)) hb4))
  go_end0
  exact ⟨rfl, Keep.below (by repeat (first | assumption | apply Keep.alloc | apply Keep.drew | exact Keep.refl _ _))⟩

set_option maxRecDepth 100000 in
theorem n125 (w : World) : Calls Try.prog 125 #[.pointer none] w fun e w' => e = .returned (.tuple #[]) ∧ Below w.heap.size w w' := by
  have r1 := nil_eq
  have r2 := nil_ne
  have r3 := nil_ps
  have r4 := nil_sp
  have k0 : Keep [] w w := Keep.refl [] w
  go_enter Try.func125, Try.ntmps125
  go_wp2_with (first
    | (go_at_call 124; (with_reducible refine (n124 _ _ _).mono ?_); rintro e w1 ⟨rfl, hb1⟩; have k1 : Keep [] w w1 := Keep.call (by repeat (first | assumption | apply Keep.alloc | apply Keep.drew | exact Keep.refl _ _)) hb1)
    | (go_at_call 64; (with_reducible refine (n64 _).mono ?_); rintro e w2 ⟨rfl, hb2⟩; have k2 : Keep [] w w2 := Keep.call (by repeat (first | assumption | apply Keep.alloc | apply Keep.drew | exact Keep.refl _ _)) hb2)
    | (go_at_call 58; (with_reducible refine (n58 _ _).mono ?_); rintro e w3 ⟨rfl, hb3⟩; have k3 : Keep [] w w3 := Keep.call (by repeat (first | assumption | apply Keep.alloc | apply Keep.drew | exact Keep.refl _ _)) hb3))
  go_end0
  exact ⟨rfl, Keep.below (by repeat (first | assumption | apply Keep.alloc | apply Keep.drew | exact Keep.refl _ _))⟩

end Go.Proofs.Ytangandfgbnomaa.V
