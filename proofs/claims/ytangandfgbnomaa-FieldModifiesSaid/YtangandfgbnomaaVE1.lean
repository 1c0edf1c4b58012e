/- Of no space: what the iterators tell: nothing. -/
import Derived.Test.YtangandfgbnomaaVE0
import Derived.Test.YtangandfgbnomaaVR5
namespace Go.Proofs.Ytangandfgbnomaa.V
open Go.RowKit Go.Shelf
set_option linter.unusedVariables false
set_option linter.unusedSimpArgs false


attribute [local go_sem] Oper.semAt_some

set_option maxRecDepth 100000 in
theorem all_nil {α : Type} (encs : α → Array Value) (Kp : World → World → Prop) {w : World} {B1 : Nat} (h1 : Blk w B1 [.pointer none] 61) (n : Nat) (hn : 1 ≤ n) :
    SeqStopsK Fence.wide n Try.prog 184 #[.pointer (some ⟨B1, 0, none⟩)] encs Kp (fun xs => xs = []) (fun _ => False) 0 w := by
  intro l J Jx W hW hJ hJx hY h0
  have b1 := h1.call hW
  have c1 := b1.cell 0
  simp only [List.getElem?_cons_zero] at c1
  have HJ := Aside0.mk hJ
  have H0 := Aside0.mk h0
  have k0 : Keep [] W W := Keep.refl _ _
  clear h1 b1 hW hJ hJx hY h0
  refine callsIn_of_wp Try.func184 rfl trivial ?_ rfl
  simp only [Try.ntmps184, List.size_toArray, List.length_cons, List.length_nil, Nat.reduceAdd, Nat.reduceSub, Array.replicate_succ, Array.replicate_zero, List.push_toArray, List.append_toArray, List.nil_append, List.cons_append]
  gi_wp2_with (first
    | (refine ⟨trivial, ?_⟩; gi_at_call 57; (with_reducible refine (callsIn_wide.2 (n57 _)).mono ?_); rintro e w1 ⟨rfl, hb1⟩; have k1 := k0.call hb1)
    | (refine ⟨trivial, ?_⟩; gi_at_call 33; (with_reducible refine (callsIn_wide.2 (n_cells _)).mono ?_); rintro e w2 ⟨rfl, hb2⟩; have K2 := Aside0.mk (k1.call hb2)))
  gi_loopw [7] (fun v7 wr => v7 = .int .i64 0 ∧ Aside0 (Keep [] W wr)) (fun _ _ => 0)
  case atStart => exact ⟨rfl, K2⟩
  case round =>
    obtain ⟨rfl, HK⟩ := hrel
    gi_wp2
    go_end0
    exact ⟨⟨_, rfl⟩, .inl ⟨[], rfl, abides_keep HJ.out H0.out HK.out⟩⟩

set_option maxRecDepth 100000 in
theorem attrs_nil {α : Type} (encs : α → Array Value) {w : World} {B1 : Nat} (h1 : Blk w B1 [.pointer none] 61) (n : Nat) (hn : 3 ≤ n) :
    SeqF Fence.wide n Try.prog 183 #[.pointer (some ⟨B1, 0, none⟩)] encs (fun _ _ => True) (fun xs => xs = []) (fun _ => False) 0 w := by
  intro l J Jx W hW hJ hJx hY h0
  have h1n : 1 ≤ n := by omega
  have b1 := h1.call hW
  have HJ := Aside0.mk hJ
  have H0 := Aside0.mk h0
  have c1 := (b1.alloc (.cells #[.func (.yield l) #[] #[]] 31)).cell 0
  simp only [List.getElem?_cons_zero] at c1
  have hit := all_calls (W.alloc (.cells #[.func (.yield l) #[] #[]] 31)) none
  simp only [World.size_alloc] at hit
  clear h1 b1 hW hJ hJx hY h0
  refine callsIn_of_wp_marks Try.func183 rfl trivial ?_ rfl
  simp only [Try.ntmps183, List.size_toArray, List.length_cons, List.length_nil, Nat.reduceAdd, Nat.reduceSub, Array.replicate_succ, Array.replicate_zero, List.push_toArray, List.append_toArray, List.nil_append, List.cons_append]
  gi_wp2_with (first
    | (refine ⟨trivial, ?_⟩; gi_at_call 162; (with_reducible refine (callsIn_wide.2 hit).mono ?_); rintro e w1 ⟨rfl, rfl⟩))
  have K0 := ((Keep.refl [] W).alloc (.cells #[.func (.yield l) #[] #[]] 31)).alloc (.cells #[.pointer none] 61)
  have a3 := Blk.new (W.alloc (.cells #[.func (.yield l) #[] #[]] 31)) [.pointer none] 61
  simp only [World.size_alloc] at a3
  generalize (W.alloc (.cells #[.func (.yield l) #[] #[]] 31)).alloc (.cells #[.pointer none] 61) = V0 at *
  refine wpIn_range_none (F := Fence.wide) (n := n) (α := Nat × C) rfl (by omega) (gf := 184) (lb := #[.pointer (some ⟨W.heap.size + 1, 0, none⟩)]) rfl trivial (enters_of Try.func184 (by kernel_rfl) rfl)
    (SeqF.of_stops (all_nil (fun x => #[.int .i64 (x.1 : Int), x.2.v]) _ a3 (n - 1) (by omega))) (fun _ => rfl) (fun V => J [] V) (fun _ A B row hs hg hr => HJ.out _ A B row hs hg (fun r e => ⟨by have := (hr r e).1; have := K0.size; omega, (hr r e).2⟩)) (abides_keep (abides_own HJ.out) H0.out K0) ?_
  intro D V hD hj hKD
  have hj2 := HJ.out.putObj (.deferred none) hj (by have := K0.size; omega) hKD rfl
  gi_wp2
  refine ⟨by simp, .inl ⟨_, _, rfl, run_takeDeferred hKD, ?_⟩⟩
  exact ⟨_, results_none rfl _ _ _, ⟨_, rfl⟩, .inl ⟨[], rfl, hj2⟩⟩

set_option maxRecDepth 100000 in
theorem n100 (k : Int) (w : World) : Calls Try.prog 100 #[.pointer none, .int .i64 k] w fun e w' => e = .returned (.slice none 0 0) ∧ Below w.heap.size w w' := by
  refine (callsIn_wide (n := 7)).1 ?_
  have hit := all_calls ((w.alloc (.cells #[.int .i64 k] 3)).alloc (.cells #[.slice none 0 0] 96)) none
  simp only [World.size_alloc] at hit
  refine callsIn_of_wp_marks Try.func100 rfl trivial ?_ rfl
  simp only [Try.ntmps100, List.size_toArray, List.length_cons, List.length_nil, Nat.reduceAdd, Nat.reduceSub, Array.replicate_succ, Array.replicate_zero, List.push_toArray, List.append_toArray, List.nil_append, List.cons_append]
  gi_wp2_with (first
    | (refine ⟨trivial, ?_⟩; gi_at_call 162; (with_reducible refine (callsIn_wide.2 hit).mono ?_); rintro e w1 ⟨rfl, rfl⟩))
  have a2 := (Blk.new (w.alloc (.cells #[.int .i64 k] 3)) [.slice none 0 0] 96).alloc (.cells #[.pointer none] 61)
  have a3 := Blk.new ((w.alloc (.cells #[.int .i64 k] 3)).alloc (.cells #[.slice none 0 0] 96)) [.pointer none] 61
  simp only [World.size_alloc] at a2 a3
  have K1 := (((Keep.refl [] w).alloc (.cells #[.int .i64 k] 3)).alloc (.cells #[.slice none 0 0] 96)).alloc (.cells #[.pointer none] 61)
  have hsz : (((w.alloc (.cells #[.int .i64 k] 3)).alloc (.cells #[.slice none 0 0] 96)).alloc (.cells #[.pointer none] 61)).heap.size = w.heap.size + 3 := by simp only [World.size_alloc]
  generalize ((w.alloc (.cells #[.int .i64 k] 3)).alloc (.cells #[.slice none 0 0] 96)).alloc (.cells #[.pointer none] 61) = W at *
  refine wpIn_range_none (F := Fence.wide) (n := 7) (α := Nat × C) rfl (by decide) (gf := 184) (lb := #[.pointer (some ⟨w.heap.size + 1 + 1, 0, none⟩)]) rfl trivial (enters_of Try.func184 (by kernel_rfl) rfl)
    (SeqF.of_stops (all_nil (fun x => #[.int .i64 (x.1 : Int), x.2.v]) _ a3 6 (by decide))) (fun _ => rfl) (fun V => Blk V (w.heap.size + 1) [.slice none 0 0] 96 ∧ Keep [] w V)
    (OwnFrom.and (ownFrom_blk (f := fun _ : Unit => [Value.slice none 0 0])) (ownFrom_keep (by omega))) ⟨a2, K1⟩ ?_
  rintro D V hD ⟨hb, hK⟩ hKD
  have c0 := hb.cell 0
  simp only [List.getElem?_cons_zero] at c0
  gi_wp2
  refine ⟨by simp, .inl ⟨_, _, rfl, run_takeDeferred hKD, ?_⟩⟩
  exact ⟨_, results_tmp rfl _ _ _, rfl, (hK.putObj (by omega)).below⟩

set_option maxRecDepth 100000 in
theorem n104 (v : Option Addr) (w : World) : Calls Try.prog 104 #[.pointer none, .pointer v] w fun e w' => e = .returned (.slice none 0 0) ∧ Below w.heap.size w w' := by
  refine (callsIn_wide (n := 7)).1 ?_
  have hit := all_calls (((w.alloc (.cells #[.pointer none] 61)).alloc (.cells #[.pointer v] 61)).alloc (.cells #[.slice none 0 0] 79)) none
  simp only [World.size_alloc] at hit
  have c1 := (((Blk.new w [.pointer none] 61).alloc (.cells #[.pointer v] 61)).alloc (.cells #[.slice none 0 0] 79)).cell 0
  simp only [List.getElem?_cons_zero] at c1
  refine callsIn_of_wp_marks Try.func104 rfl trivial ?_ rfl
  simp only [Try.ntmps104, List.size_toArray, List.length_cons, List.length_nil, Nat.reduceAdd, Nat.reduceSub, Array.replicate_succ, Array.replicate_zero, List.push_toArray, List.append_toArray, List.nil_append, List.cons_append]
  gi_wp2_with (first
    | (refine ⟨trivial, ?_⟩; gi_at_call 162; (with_reducible refine (callsIn_wide.2 hit).mono ?_); rintro e w1 ⟨rfl, rfl⟩))
  have a2 := (Blk.new ((w.alloc (.cells #[.pointer none] 61)).alloc (.cells #[.pointer v] 61)) [.slice none 0 0] 79).alloc (.cells #[.pointer none] 61)
  have a3 := Blk.new (((w.alloc (.cells #[.pointer none] 61)).alloc (.cells #[.pointer v] 61)).alloc (.cells #[.slice none 0 0] 79)) [.pointer none] 61
  simp only [World.size_alloc] at a2 a3
  have K1 := ((((Keep.refl [] w).alloc (.cells #[.pointer none] 61)).alloc (.cells #[.pointer v] 61)).alloc (.cells #[.slice none 0 0] 79)).alloc (.cells #[.pointer none] 61)
  have hsz : ((((w.alloc (.cells #[.pointer none] 61)).alloc (.cells #[.pointer v] 61)).alloc (.cells #[.slice none 0 0] 79)).alloc (.cells #[.pointer none] 61)).heap.size = w.heap.size + 4 := by simp only [World.size_alloc]
  clear c1
  generalize (((w.alloc (.cells #[.pointer none] 61)).alloc (.cells #[.pointer v] 61)).alloc (.cells #[.slice none 0 0] 79)).alloc (.cells #[.pointer none] 61) = W at *
  refine wpIn_range_none (F := Fence.wide) (n := 7) (α := Nat × C) rfl (by decide) (gf := 184) (lb := #[.pointer (some ⟨w.heap.size + 1 + 1 + 1, 0, none⟩)]) rfl trivial (enters_of Try.func184 (by kernel_rfl) rfl)
    (SeqF.of_stops (all_nil (fun x => #[.int .i64 (x.1 : Int), x.2.v]) _ a3 6 (by decide))) (fun _ => rfl) (fun V => Blk V (w.heap.size + 1 + 1) [.slice none 0 0] 79 ∧ Keep [] w V)
    (OwnFrom.and (ownFrom_blk (f := fun _ : Unit => [Value.slice none 0 0])) (ownFrom_keep (by omega))) ⟨a2, K1⟩ ?_
  rintro D V hD ⟨hb, hK⟩ hKD
  have c0 := hb.cell 0
  simp only [List.getElem?_cons_zero] at c0
  gi_wp2
  refine ⟨by simp, .inl ⟨_, _, rfl, run_takeDeferred hKD, ?_⟩⟩
  exact ⟨_, results_tmp rfl _ _ _, rfl, (hK.putObj (by omega)).below⟩


end Go.Proofs.Ytangandfgbnomaa.V
