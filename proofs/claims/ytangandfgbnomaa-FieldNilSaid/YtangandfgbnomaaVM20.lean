/- The walk of the law FieldNil. -/
import Derived.Test.YtangandfgbnomaaVE3
import Derived.Test.YtangandfgbnomaaVA13
namespace Go.Proofs.Ytangandfgbnomaa.V
open Go.RowKit Go.Shelf
set_option linter.unusedVariables false
set_option linter.unusedSimpArgs false


attribute [local go_sem] Oper.semAt_some
theorem SeqF.stops {α : Type} {F : Fence} {n : Nat} {P : Program} {g : Nat} {lb : Array Value} {encs : α → Array Value} {Kp : World → World → Prop} {S Sp Sp' : List α → Prop} {N : Nat} {w : World}
    (h : SeqF F n P g lb encs (fun _ _ => True) S Sp N w) (hs : ∀ pre, Sp pre → Sp' pre) : SeqF F n P g lb encs Kp S Sp' N w := fun l J Jx W hW hJ hJx hY h0 =>
  (h l J Jx W hW hJ hJx (fun pre x V hj hl => (hY pre x V hj hl).mono (by
    rintro e V' (⟨a, b, c, d⟩ | h)
    · exact .inl ⟨a, b, trivial, d⟩
    · exact .inr h)) h0).mono (fun e W' ⟨a, b⟩ => ⟨a, b.imp id (fun ⟨pre, h1, h2⟩ => ⟨pre, hs pre h1, h2⟩)⟩)
theorem n79_mod {W : World} {B1 : Nat} (hb : Blk W B1 [.pointer none] 61) : Calls Try.prog 79 #[.func (.func 166) #[] #[.pointer (some ⟨B1, 0, none⟩)]] W fun e w' => e = .returned (.slice none 0 0) ∧ Below W.heap.size W w' := by
  have hT : TellsF W 166 #[.pointer (some ⟨B1, 0, none⟩)] [] := fun B V k hB hB2 => ⟨0, by decide, SeqF.stops (modified_nil (fun x : Int => #[Value.int .i64 x]) (hb.keep k (by simp)) 19 (by decide)) (fun _ h => h.elim)⟩
  have := collectF_calls (l := []) (enters_of Try.func166 (by kernel_rfl) rfl) (by decide) hT
  exact this.mono (fun e w' ⟨v, h1, h2, h3⟩ => ⟨by rw [h1, h2.2 rfl], h3⟩)

set_option maxRecDepth 100000 in
set_option maxHeartbeats 4000000 in
theorem fnil_walk (x : Int) (w : World) : Calls Try.prog 20 #[.int .i64 x] w fun e w' => e = .returned (.bool true) ∧ Below w.heap.size w w' := by
  refine (callsIn_wide (n := 20)).1 ?_
  have b0 := Blk.new w [.bool false] 4
  have k0 := (Keep.refl [] w).alloc (.cells #[.bool false] 4)
  have q79 : ∀ W B1, Blk W B1 [.pointer none] 61 → _ := fun W B1 h => n79_mod h
  refine callsIn_of_wp_marks Try.func20 rfl trivial ?_ rfl
  simp only [Try.ntmps20, List.size_toArray, List.length_cons, List.length_nil, Nat.reduceAdd, Nat.reduceSub, Array.replicate_succ, Array.replicate_zero, List.push_toArray, List.append_toArray, List.nil_append, List.cons_append]
  gi_wp2_with (first
    | (refine ⟨trivial, ?_⟩; gi_at_call 67; (with_reducible refine (callsIn_wide.2 (awake13 _)).mono ?_); rintro e w1 ⟨rfl, hb1⟩; have k1 := k0.call hb1; have b1 := b0.call hb1)
    | (refine ⟨trivial, ?_⟩; gi_at_call 86; (with_reducible refine (callsIn_wide.2 (n86 _ _)).mono ?_); rintro e w2 ⟨rfl, hb2⟩; have k2 := (k1.call hb2).alloc (.cells #[.bool false, .bool false, .int .i64 0, .bool false] 103); have b2 := (b1.call hb2).alloc (.cells #[.bool false, .bool false, .int .i64 0, .bool false] 103))
    | (refine ⟨trivial, ?_⟩; gi_at_call 121; (with_reducible refine (callsIn_wide.2 (n121 _)).mono ?_); rintro e w3 ⟨rfl, hb3⟩; have k3 := k2.call hb3; have b3 := b2.call hb3)
    | (refine ⟨trivial, ?_⟩; gi_at_call 108; (with_reducible refine (callsIn_wide.2 (n108 none _)).mono ?_); rintro e w4 ⟨rfl, rfl⟩))
  have K4 := k3.alloc (.cells #[.pointer none] 61)
  have B4 := b3.alloc (.cells #[.pointer none] 61)
  have a3 := Blk.new w3 [.pointer none] 61
  generalize w3.alloc (.cells #[.pointer none] 61) = W at *
  refine wpIn_range_none (F := Fence.wide) (n := 20) (α := Int × Value) rfl (by decide) (gf := 163) (lb := #[.pointer (some ⟨w3.heap.size, 0, none⟩)]) rfl trivial (enters_of Try.func163 (by kernel_rfl) rfl)
    (fields_nil (fun x => #[.int .i64 x.1, x.2]) a3 19 (by decide)) (fun _ => rfl) (fun V => Blk V w.heap.size [.bool false] 4 ∧ Keep [] w V)
    (OwnFrom.and (ownFrom_blk (f := fun _ : Unit => [Value.bool false])) (ownFrom_keep K4.size)) ⟨B4, K4⟩ ?_
  rintro D V hD ⟨hb, hK⟩ hKD
  have hDs := K4.size
  have hDlt : D < V.heap.size := (Array.getElem?_eq_some_iff.1 hKD).1
  have hDw : w.heap.size < W.heap.size := B4.lt
  have KV := Keep.refl [] V
  have HH := Aside0.mk (And.intro hb (And.intro hK hKD))
  clear hb hK hKD k3 k2 k1 k0 b0 b1 b2 b3 hb1 hb2 hb3
  gi_wp2_with (first
    | (refine ⟨trivial, ?_⟩; gi_at_call 87; (with_reducible refine (callsIn_wide.2 (n87 _ _)).mono ?_); rintro e w10 ⟨rfl, hb10⟩; have k10 := KV.call hb10)
    | (refine ⟨trivial, ?_⟩; gi_at_call 111; (with_reducible refine (callsIn_wide.2 (n111 _ _)).mono ?_); rintro e w11 ⟨rfl, hb11⟩; have k11 := k10.call hb11)
    | (refine ⟨trivial, ?_⟩; gi_at_call 69; (with_reducible refine (callsIn_wide.2 (n69 _ _)).mono ?_); rintro e w12 ⟨rfl, hb12⟩; have k12 := k11.call hb12)
    | (refine ⟨trivial, ?_⟩; gi_at_call 70; (with_reducible refine (callsIn_wide.2 (n70 _ _)).mono ?_); rintro e w13 ⟨rfl, hb13⟩; have k13 := k12.call hb13)
    | (refine ⟨trivial, ?_⟩; gi_at_call 116; (with_reducible refine (callsIn_wide.2 (n116 _ _)).mono ?_); rintro e w14 ⟨rfl, hb14⟩; have k14 := k13.call hb14)
    | (refine ⟨trivial, ?_⟩; gi_at_call 119; (with_reducible refine (callsIn_wide.2 (n119 none _)).mono ?_); rintro e w20 ⟨rfl, rfl⟩; have bx := Blk.new w14 [.pointer none] 61; have k20 := k14.alloc (.cells #[.pointer none] 61))
    | (refine ⟨trivial, ?_⟩; gi_at_call 79; (with_reducible refine (callsIn_wide.2 (q79 _ _ bx)).mono ?_); rintro e w21 ⟨rfl, hb21⟩; have k21 := k20.call hb21)
    | (refine ⟨trivial, ?_⟩; gi_at_call 89; (with_reducible refine (callsIn_wide.2 (n89 _ _)).mono ?_); rintro e w22 ⟨rfl, hb22⟩; have k22 := k21.call hb22)
    | (refine ⟨trivial, ?_⟩; gi_at_call 112; (with_reducible refine (callsIn_wide.2 (n112 _ _)).mono ?_); rintro e w23 ⟨rfl, hb23⟩; have k23 := k22.call hb23)
    | (refine ⟨trivial, ?_⟩; gi_at_call 114; (with_reducible refine (callsIn_wide.2 (n114 _)).mono ?_); rintro e w24 ⟨rfl, hb24⟩; have K24 := Aside0.mk (k23.call hb24); have bb := HH.out.1.keep K24.out (by simp); have g0 := bb.cell 0; have gf := bb.frozen; have gl := bb.lt; simp only [List.getElem?_cons_zero] at g0))
  have bb2 := bb.set 0 (.bool true)
  have hkd : (w24.setCell ⟨w.heap.size, 0, none⟩ (.bool true)).heap[D]? = some (.deferred (some [])) := by
    rw [Below.heap_setCell _ _ _ D (by show D ≠ w.heap.size; omega), K24.out.block D hDlt (by simp)]
    exact HH.out.2.2
  refine ⟨by simp, .inl ⟨_, _, rfl, run_takeDeferred hkd, ?_⟩⟩
  have c3 : ((w24.setCell ⟨w.heap.size, 0, none⟩ (.bool true)).putObj D (.deferred none)).cell? ⟨w.heap.size, 0, none⟩ = some (.bool true) := (cell_put (by omega) 0).trans (by have := bb2.cell 0; simpa using this)
  refine ⟨.bool true, ?_, rfl, Keep.below (Keep.putObj ((HH.out.2.1.trans K24.out (by simp)).setCell (p := ⟨w.heap.size, 0, none⟩) (.inr (Nat.le_refl _)) _) (by omega))⟩
  simp only [results, Try.results20]
  go_simp

end Go.Proofs.Ytangandfgbnomaa.V
