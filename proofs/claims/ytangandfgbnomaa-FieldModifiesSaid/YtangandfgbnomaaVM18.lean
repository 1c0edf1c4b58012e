/- The walk of the law CursorNil. -/
import Derived.Test.YtangandfgbnomaaVE1
import Derived.Test.YtangandfgbnomaaVC1
import Derived.Test.YtangandfgbnomaaVP2
namespace Go.Proofs.Ytangandfgbnomaa.V
open Go.RowKit Go.Shelf
set_option linter.unusedVariables false
set_option linter.unusedSimpArgs false


attribute [local go_sem] Oper.semAt_some
theorem n92 (w : World) : Calls Try.prog 92 #[.pointer none] w fun e w' => e = .returned (.func (.func 161) #[] #[.pointer (some ⟨w.heap.size, 0, none⟩)]) ∧ w' = w.alloc (.cells #[.pointer none] 61) := by
  go_enter Try.func92, Try.ntmps92
  go_wp2
  go_ret
  exact ⟨rfl, rfl⟩
theorem SeqStopsK.sp {α : Type} {F : Fence} {n : Nat} {P : Program} {g : Nat} {lb : Array Value} {encs : α → Array Value} {Kp : World → World → Prop} {S Sp Sp' : List α → Prop} {N : Nat} {w : World}
    (h : SeqStopsK F n P g lb encs Kp S Sp N w) (hs : ∀ pre, Sp pre → Sp' pre) : SeqStopsK F n P g lb encs Kp S Sp' N w := fun l J Jx W hW hJ hJx hY h0 =>
  (h l J Jx W hW hJ hJx hY h0).mono (fun e W' ⟨a, b⟩ => ⟨a, b.imp id (fun ⟨pre, h1, h2⟩ => ⟨pre, hs pre h1, h2⟩)⟩)

set_option maxRecDepth 100000 in
theorem tabs_nil {α : Type} (encs : α → Array Value) (Kp : World → World → Prop) {w : World} {B1 : Nat} (h1 : Blk w B1 [.pointer none] 61) (n : Nat) (hn : 1 ≤ n) :
    SeqStopsK Fence.wide n Try.prog 161 #[.pointer (some ⟨B1, 0, none⟩)] encs Kp (fun xs => xs = []) (fun _ => False) 0 w := by
  intro l J Jx W hW hJ hJx hY h0
  have b1 := h1.call hW
  have c1 := b1.cell 0
  simp only [List.getElem?_cons_zero] at c1
  have HJ := Aside0.mk hJ
  have H0 := Aside0.mk h0
  have k0 : Keep [] W W := Keep.refl _ _
  clear h1 b1 hW hJ hJx hY h0
  refine callsIn_of_wp Try.func161 rfl trivial ?_ rfl
  simp only [Try.ntmps161, List.size_toArray, List.length_cons, List.length_nil, Nat.reduceAdd, Nat.reduceSub, Array.replicate_succ, Array.replicate_zero, List.push_toArray, List.append_toArray, List.nil_append, List.cons_append]
  gi_wp2_with (first
    | (refine ⟨trivial, ?_⟩; gi_at_call 69; (with_reducible refine (callsIn_wide.2 (n69 _ _)).mono ?_); rintro e w1 ⟨rfl, hb1⟩; have k1 := Aside0.mk (k0.call hb1)))
  refine bodyPost_ret (results_none rfl _ _ _) rfl ?_
  exact ⟨⟨_, rfl⟩, .inl ⟨[], rfl, abides_keep HJ.out H0.out k1.out⟩⟩

set_option maxRecDepth 100000 in
theorem n94 (w : World) : Calls Try.prog 94 #[.pointer none] w fun e w' => e = .returned (.int .i64 (-1)) ∧ Below w.heap.size w w' := by
  refine (callsIn_wide (n := 7)).1 ?_
  have hit := n92 (((w.alloc (.cells #[.pointer none] 61)).alloc (.cells #[.int .i64 0] 3)).alloc (.cells #[.int .i64 0] 3))
  simp only [World.size_alloc] at hit
  have c1 := (((Blk.new w [.pointer none] 61).alloc (.cells #[.int .i64 0] 3)).alloc (.cells #[.int .i64 0] 3)).cell 0
  simp only [List.getElem?_cons_zero] at c1
  refine callsIn_of_wp_marks Try.func94 rfl trivial ?_ rfl
  simp only [Try.ntmps94, List.size_toArray, List.length_cons, List.length_nil, Nat.reduceAdd, Nat.reduceSub, Array.replicate_succ, Array.replicate_zero, List.push_toArray, List.append_toArray, List.nil_append, List.cons_append]
  gi_wp2_with (first
    | (refine ⟨trivial, ?_⟩; gi_at_call 92; (with_reducible refine (callsIn_wide.2 hit).mono ?_); rintro e w1 ⟨rfl, rfl⟩))
  have a2 := ((Blk.new (w.alloc (.cells #[.pointer none] 61)) [.int .i64 0] 3).alloc (.cells #[.int .i64 0] 3)).alloc (.cells #[.pointer none] 61)
  have a3 := Blk.new (((w.alloc (.cells #[.pointer none] 61)).alloc (.cells #[.int .i64 0] 3)).alloc (.cells #[.int .i64 0] 3)) [.pointer none] 61
  simp only [World.size_alloc] at a2 a3
  have K1 := ((((Keep.refl [] w).alloc (.cells #[.pointer none] 61)).alloc (.cells #[.int .i64 0] 3)).alloc (.cells #[.int .i64 0] 3)).alloc (.cells #[.pointer none] 61)
  have hsz : ((((w.alloc (.cells #[.pointer none] 61)).alloc (.cells #[.int .i64 0] 3)).alloc (.cells #[.int .i64 0] 3)).alloc (.cells #[.pointer none] 61)).heap.size = w.heap.size + 4 := by simp only [World.size_alloc]
  clear c1
  generalize (((w.alloc (.cells #[.pointer none] 61)).alloc (.cells #[.int .i64 0] 3)).alloc (.cells #[.int .i64 0] 3)).alloc (.cells #[.pointer none] 61) = W at *
  refine wpIn_range_none (F := Fence.wide) (n := 7) (α := Int) rfl (by decide) (gf := 161) (lb := #[.pointer (some ⟨w.heap.size + 1 + 1 + 1, 0, none⟩)]) rfl trivial (enters_of Try.func161 (by kernel_rfl) rfl)
    (SeqF.of_stops (tabs_nil (fun x => #[.int .i64 x]) _ a3 6 (by decide))) (fun _ => rfl) (fun V => Blk V (w.heap.size + 1) [.int .i64 0] 3 ∧ Keep [] w V)
    (OwnFrom.and (ownFrom_blk (f := fun _ : Unit => [Value.int .i64 0])) (ownFrom_keep (by omega))) ⟨a2, K1⟩ ?_
  rintro D V hD ⟨hb, hK⟩ hKD
  have c0 := hb.cell 0
  have cf := hb.frozen
  have cl := hb.lt
  simp only [List.getElem?_cons_zero] at c0
  have hb2 := hb.set 0 (.int .i64 (-1))
  have c2 := hb2.cell 0
  simp only [List.set_cons_zero, List.getElem?_cons_zero] at c2
  have hK2 := hK.setCell (p := ⟨w.heap.size + 1, 0, none⟩) (.inr (by show w.heap.size ≤ w.heap.size + 1; omega)) (.int .i64 (-1))
  have hKD2 : (V.setCell ⟨w.heap.size + 1, 0, none⟩ (.int .i64 (-1))).heap[D]? = some (.deferred (some [])) := (Below.heap_setCell V ⟨w.heap.size + 1, 0, none⟩ _ D (by show D ≠ w.heap.size + 1; omega)).trans hKD
  have HH := Aside0.mk (And.intro hb2 (And.intro hK2 hKD2))
  clear hb hK hb2 hK2 hKD hKD2 a2 a3 K1 hit
  gi_wp2
  refine ⟨by simp, .inl ⟨_, _, rfl, run_takeDeferred HH.out.2.2, ?_⟩⟩
  have c3 : ((V.setCell ⟨w.heap.size + 1, 0, none⟩ (.int .i64 (-1))).putObj D (.deferred none)).cell? ⟨w.heap.size + 1, 0, none⟩ = some (.int .i64 (-1)) := (cell_put (by omega) 0).trans c2
  refine ⟨.int .i64 (-1), ?_, rfl, (HH.out.2.1.putObj (by omega)).below⟩
  simp only [results, Try.results94]
  go_simp

theorem tells_none {w : World} {gf : Nat} {lb : Array Value} (h : ∀ W, Keep [] w W → ∀ Kp, SeqStopsK Fence.wide 6 Try.prog gf lb (fun x : Int => #[Value.int .i64 x]) Kp (fun xs => xs = []) (fun _ => False) 0 W) : Tells w gf lb [] :=
  fun B W k hB hb => SeqStopsK.sp (h W k (KO B)) (fun _ h => h.elim)

set_option maxRecDepth 100000 in
set_option maxHeartbeats 2000000 in
theorem cnil_walk (a b : Int) (w : World) : Calls Try.prog 18 #[.int .i64 a, .int .i64 b] w fun e w' => e = .returned (.bool true) ∧ Below w.heap.size w w' := by
  have k0 : Keep [] w w := Keep.refl _ _
  have c79 : ∀ W B1, Blk W B1 [.pointer none] 61 → Calls Try.prog 79 #[.func (.func 161) #[] #[.pointer (some ⟨B1, 0, none⟩)]] W fun e w' => e = .returned (.slice none 0 0) ∧ Below W.heap.size W w' := fun W B1 hb => by
    have := collect_calls (l := []) (enters_of Try.func161 (by kernel_rfl) rfl) (by decide) (tells_none (w := W) (gf := 161) (lb := #[.pointer (some ⟨B1, 0, none⟩)]) (fun V kV Kp => tabs_nil _ Kp (hb.keep kV (by simp)) 6 (by decide)))
    exact this.mono (fun e w' ⟨v, h1, h2, h3⟩ => ⟨by rw [h1, h2.2 rfl], h3⟩)
  go_enter Try.func18, Try.ntmps18
  go_wp2_with (first
    | (go_at_call 72; (with_reducible refine (awake15 _).mono ?_); rintro e w1 ⟨rfl, hb1⟩; have k1 := k0.call hb1)
    | (go_at_call 96; (with_reducible refine (n96 _).mono ?_); rintro e w2 ⟨rfl, hb2⟩; have k2 := k1.call hb2)
    | (go_at_call 98; (with_reducible refine (n98 _).mono ?_); rintro e w3 ⟨rfl, hb3⟩; have k3 := k2.call hb3)
    | (go_at_call 123; (with_reducible refine (n123 _).mono ?_); rintro e w4 ⟨rfl, hb4⟩; have k4 := k3.call hb4)
    | (go_at_call 76; (with_reducible refine (n76 _).mono ?_); rintro e w5 ⟨rfl, hb5⟩; have k5 := k4.call hb5)
    | (go_at_call 124; (with_reducible refine (n124 _ _ _).mono ?_); rintro e w6 ⟨rfl, hb6⟩; have k6 := k5.call hb6)
    | (go_at_call 125; (with_reducible refine (n125 _).mono ?_); rintro e w7 ⟨rfl, hb7⟩; have k7 := k6.call hb7)
    | (go_at_call 74; (with_reducible refine (n74 _ _).mono ?_); rintro e w8 ⟨rfl, hb8⟩; have k8 := k7.call hb8)
    | (go_at_call 92; (with_reducible refine (n92 _).mono ?_); rintro e w9 ⟨rfl, rfl⟩; have bx := Blk.new w8 [.pointer none] 61; have k9 := k8.alloc (.cells #[.pointer none] 61))
    | (go_at_call 79; (with_reducible refine (c79 _ _ bx).mono ?_); rintro e w10 ⟨rfl, hb10⟩; have k10 := k9.call hb10)
    | (go_at_call 94; (with_reducible refine (n94 _).mono ?_); rintro e w11 ⟨rfl, hb11⟩; have k11 := k10.call hb11))
  go_ret
  exact ⟨rfl, k11.below⟩

end Go.Proofs.Ytangandfgbnomaa.V
