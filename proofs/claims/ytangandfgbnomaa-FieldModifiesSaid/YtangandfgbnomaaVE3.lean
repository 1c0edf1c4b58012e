/- Of no space: fields, their places, lengths, texts: nothing. -/
import Derived.Test.YtangandfgbnomaaVE1
import Derived.Test.YtangandfgbnomaaVR9
import Derived.Test.YtangandfgbnomaaVR3
import Derived.Test.YtangandfgbnomaaVM18
namespace Go.Proofs.Ytangandfgbnomaa.V
open Go.RowKit Go.Shelf
set_option linter.unusedVariables false
set_option linter.unusedSimpArgs false


attribute [local go_sem] Oper.semAt_some
theorem keep_set {W V : World} (k : Keep [] W V) {B : Nat} (hB : B < W.heap.size) (v : Value) : Keep [] (W.setCell ⟨B, 0, none⟩ v) (V.setCell ⟨B, 0, none⟩ v) := by
  refine ⟨k.os, k.tape, k.output, by simpa [World.setCell] using k.size, fun i hi _ => ?_⟩
  have hi2 : i < W.heap.size := by simpa [World.setCell] using hi
  have e := k.block i hi2 (by simp)
  by_cases h : i = B
  · subst h
    show (V.heap.modify i _)[i]? = (W.heap.modify i _)[i]?
    have hv : i < V.heap.size := Nat.lt_of_lt_of_le hi2 k.size
    rw [Array.getElem?_eq_getElem (by simpa using hv), Array.getElem?_eq_getElem (by simpa using hi2), Array.getElem_modify_self, Array.getElem_modify_self]
    rw [Array.getElem?_eq_getElem hv, Array.getElem?_eq_getElem hi2] at e
    rw [Option.some.inj e]
  · rw [Below.heap_setCell _ _ _ i h, Below.heap_setCell _ _ _ i h, e]

/-- A loop over an iterator that tells nothing but stores into a box of its own. -/
theorem wpIn_range_noneW {F : Fence} {n : Nat} {P : Program} {α : Type} {g : Operand} {ps : Array Tmp} {assign body : Code} {Q : Exit → Act → World → Prop} {a : Act} {w : World}
    (hro : F.round = none) (h1 : 1 ≤ n) {gf : Nat} {lb : Array Value} (hg : a.eval g = .func (.func gf) #[] lb) (hFg : F.fn gf) (eg : ∀ args w, (callFunc gf args).run P w = .ok (.enter gf args) w)
    {encs : α → Array Value} {τ : World → World} (hseq : SeqW F (n - 1) P gf lb encs (fun _ _ => True) (fun xs => xs = []) (fun _ => False) 0 w τ) (hτ : ∀ (V : World) (k : Nat) (o : Obj), V.heap[k]? = some o → o.isCells = false → (τ V).heap[k]? = some o) (hps : ∀ x, (encs x).size = ps.size)
    (I : World → Prop) (hI : OwnFrom w.heap.size (fun (_ : Unit) => I)) (h0 : ∀ V, Keep [] w V → I (τ V))
    (hdone : ∀ (D : Nat) (W : World), w.heap.size ≤ D → I W → W.heap[D]? = some (.deferred (some [])) → Q .normal { a with defers := { target := .collected D, args := #[] } :: a.defers } W) :
    (Code.rangeFunc g ps assign body).wpIn F n P Q a w :=
  wpIn_rangeW hro h1 hg hFg eg hseq hτ (fun _ _ => trivial) (fun _ _ _ _ _ _ _ _ => trivial) (Below.refl _ _) hps (fun _ W => I W) (fun _ _ _ => False)
    (fun _ A B row hs hg hr => hI () A B row hs hg hr) (fun _ _ _ _ _ hs _ _ => hs) h0 (fun _ _ _ => False) (fun _ _ _ _ _ _ hs _ _ => hs)
    (fun _ _ _ _ _ _ hl _ => absurd hl (Nat.not_lt_zero _)) (fun _ _ _ _ _ _ _ _ h _ => h.elim) (fun D xs W hD _ hi hk => hdone D W hD hi hk) (fun _ _ _ _ _ h => h.elim)
theorem set_other {V : World} {B : Nat} {v : Value} {cs : List Value} {t : TypeId} (h : Blk V B cs t) (k : Nat) (o : Obj) (hk : V.heap[k]? = some o) (ho : o.isCells = false) : (V.setCell ⟨B, 0, none⟩ v).heap[k]? = some o := by
  rw [Below.heap_setCell _ _ _ k (by rintro rfl; rw [show V.heap[k]? = _ from h] at hk; cases hk; cases ho)]; exact hk
theorem set_other2 (B : Nat) (v : Value) (V : World) (k : Nat) (o : Obj) (hk : V.heap[k]? = some o) (ho : o.isCells = false) : (V.setCell ⟨B, 0, none⟩ v).heap[k]? = some o := by
  by_cases e : k = B
  · subst e
    have hlt := (Array.getElem?_eq_some_iff.1 hk).1
    have hg := (Array.getElem?_eq_some_iff.1 hk).2
    show (V.heap.modify k _)[k]? = _
    rw [Array.getElem?_eq_getElem (by simpa using hlt), Array.getElem_modify_self, hg]
    cases o <;> first | rfl | cases ho
  · rw [Below.heap_setCell _ _ _ k e]; exact hk

theorem n109 (n : Int) (w : World) : Calls Try.prog 109 #[.pointer none, .int .i64 n] w fun e w' => e = .returned (.func (.func 164) #[] #[.pointer (some ⟨w.heap.size, 0, none⟩), .pointer (some ⟨w.heap.size + 1, 0, none⟩)]) ∧
    w' = (w.alloc (.cells #[.pointer none] 61)).alloc (.cells #[.int .i64 n] 3) := by
  go_enter Try.func109, Try.ntmps109
  go_wp2
  go_ret
  exact ⟨rfl, rfl⟩
theorem n108 (v : Option Addr) (w : World) : Calls Try.prog 108 #[.pointer v] w fun e w' => e = .returned (.func (.func 163) #[] #[.pointer (some ⟨w.heap.size, 0, none⟩)]) ∧ w' = w.alloc (.cells #[.pointer v] 61) := by
  go_enter Try.func108, Try.ntmps108
  go_wp2
  go_ret
  exact ⟨rfl, rfl⟩
theorem n119 (v : Option Addr) (w : World) : Calls Try.prog 119 #[.pointer v] w fun e w' => e = .returned (.func (.func 166) #[] #[.pointer (some ⟨w.heap.size, 0, none⟩)]) ∧ w' = w.alloc (.cells #[.pointer v] 61) := by
  go_enter Try.func119, Try.ntmps119
  go_wp2
  go_ret
  exact ⟨rfl, rfl⟩

set_option maxRecDepth 100000 in
theorem places_nil {α : Type} (encs : α → Array Value) {w : World} {B1 B2 : Nat} {x : Int} (h1 : Blk w B1 [.pointer none] 61) (h2 : Blk w B2 [.int .i64 x] 3) (n : Nat) (hn : 1 ≤ n) :
    SeqW Fence.wide n Try.prog 164 #[.pointer (some ⟨B1, 0, none⟩), .pointer (some ⟨B2, 0, none⟩)] encs (fun _ _ => True) (fun xs => xs = []) (fun _ => False) 0 w (fun V => V.setCell ⟨B2, 0, none⟩ (.int .i64 0)) := by
  intro l J Jx W hW hJ hJx hY h0
  have b1 := h1.call hW
  have b2 := h2.call hW
  have B1' := Aside0.mk b1
  have B2' := Aside0.mk b2
  have hne : B1 ≠ B2 := by
    rintro rfl
    have := (show W.heap[B1]? = _ from b1).symm.trans b2
    simp at this
  have c1 := b1.cell 0
  simp only [List.getElem?_cons_zero] at c1
  have HJ := Aside0.mk hJ
  have H0 := Aside0.mk h0
  have HNE := Aside0.mk hne
  have f60 := field103_nil
  have k0 : Keep [] W W := Keep.refl _ _
  clear h1 h2 b1 b2 hW hJ hJx hY h0 hne
  refine callsIn_of_wp Try.func164 rfl trivial ?_ rfl
  simp only [Try.ntmps164, List.size_toArray, List.length_cons, List.length_nil, Nat.reduceAdd, Nat.reduceSub, Array.replicate_succ, Array.replicate_zero, List.push_toArray, List.append_toArray, List.nil_append, List.cons_append]
  gi_wp2_with (first
    | (refine ⟨trivial, ?_⟩; gi_at_call 57; (with_reducible refine (callsIn_wide.2 (n57 _)).mono ?_); rintro e w1 ⟨rfl, hb1⟩
       have k1 := (k0.call hb1).alloc (.cells #[.int .i64 0, .int .i64 0] 24)
       have g2 := (B2'.out.keep k1 (by simp)).cell 0
       simp only [List.getElem?_cons_zero] at g2)
    | (refine ⟨trivial, ?_⟩; gi_at_call 32; (with_reducible refine (callsIn_wide.2 (n_wrap _ _)).mono ?_); rintro e w2 ⟨rfl, hb2⟩
       have k2 := k1.call hb2
       have b2 := B2'.out.keep k2 (by simp)
       have f2 := b2.frozen
       have l2 := b2.lt
       have g5 := b2.cell 0
       have b3 := b2.set 0 (.int .i64 0)
       have g3 := b3.cell 0
       have b4 := (B1'.out.keep k2 (by simp)).other (p := ⟨B2, 0, none⟩) HNE.out (.int .i64 0)
       have g4 := b4.cell 0
       simp only [List.getElem?_cons_zero, List.set_cons_zero] at g3 g4 g5
       have KK := Aside0.mk (keep_set k2 B2'.out.lt (.int .i64 0))
       clear b2 b3 b4)
    | (refine ⟨trivial, ?_⟩; gi_at_call 58; (with_reducible refine (callsIn_wide.2 (n58 _ _)).mono ?_); rintro e w3 ⟨rfl, hb3⟩; have K3 := Aside0.mk (KK.out.call hb3)))
  refine bodyPost_ret (results_none rfl _ _ _) rfl ?_
  exact ⟨⟨_, rfl⟩, .inl ⟨[], rfl, abides_keep (abides_own HJ.out) H0.out K3.out⟩⟩
theorem attrs_calls' (v : Option Addr) (w : World) : Calls Try.prog 158 #[.pointer v] w fun e w' => e = .returned (.func (.func 183) #[] #[.pointer (some ⟨w.heap.size, 0, none⟩)]) ∧ w' = w.alloc (.cells #[.pointer v] 61) := attrs_calls w v

set_option maxRecDepth 100000 in
theorem fields_nil {α : Type} (encs : α → Array Value) {w : World} {B1 : Nat} (h1 : Blk w B1 [.pointer none] 61) (n : Nat) (hn : 6 ≤ n) :
    SeqF Fence.wide n Try.prog 163 #[.pointer (some ⟨B1, 0, none⟩)] encs (fun _ _ => True) (fun xs => xs = []) (fun _ => False) 0 w := by
  intro l J Jx W hW hJ hJx hY h0
  have h1n : 1 ≤ n := by omega
  have b1 := h1.call hW
  have HJ := Aside0.mk hJ
  have H0 := Aside0.mk h0
  have c1 := (b1.alloc (.cells #[.func (.yield l) #[] #[]] 171)).cell 0
  simp only [List.getElem?_cons_zero] at c1
  have hit := attrs_calls' none (W.alloc (.cells #[.func (.yield l) #[] #[]] 171))
  simp only [World.size_alloc] at hit
  clear h1 b1 hW hJ hJx hY h0
  refine callsIn_of_wp_marks Try.func163 rfl trivial ?_ rfl
  simp only [Try.ntmps163, List.size_toArray, List.length_cons, List.length_nil, Nat.reduceAdd, Nat.reduceSub, Array.replicate_succ, Array.replicate_zero, List.push_toArray, List.append_toArray, List.nil_append, List.cons_append]
  gi_wp2_with (first
    | (refine ⟨trivial, ?_⟩; gi_at_call 158; (with_reducible refine (callsIn_wide.2 hit).mono ?_); rintro e w1 ⟨rfl, rfl⟩))
  have K0 := ((Keep.refl [] W).alloc (.cells #[.func (.yield l) #[] #[]] 171)).alloc (.cells #[.pointer none] 61)
  have a3 := Blk.new (W.alloc (.cells #[.func (.yield l) #[] #[]] 171)) [.pointer none] 61
  simp only [World.size_alloc] at a3
  generalize (W.alloc (.cells #[.func (.yield l) #[] #[]] 171)).alloc (.cells #[.pointer none] 61) = V0 at *
  refine wpIn_range_none (F := Fence.wide) (n := n) (α := Int) rfl (by omega) (gf := 183) (lb := #[.pointer (some ⟨W.heap.size + 1, 0, none⟩)]) rfl trivial (enters_of Try.func183 (by kernel_rfl) rfl)
    (attrs_nil (fun x => #[.int .i64 x]) a3 (n - 1) (by omega)) (fun _ => rfl) (fun V => J [] V) (fun _ A B row hs hg hr => HJ.out _ A B row hs hg (fun r e => ⟨by have := (hr r e).1; have := K0.size; omega, (hr r e).2⟩)) (abides_keep (abides_own HJ.out) H0.out K0) ?_
  intro D V hD hj hKD
  have hj2 := HJ.out.putObj (.deferred none) hj (by have := K0.size; omega) hKD rfl
  gi_wp2
  refine ⟨by simp, .inl ⟨_, _, rfl, run_takeDeferred hKD, ?_⟩⟩
  exact ⟨_, results_none rfl _ _ _, ⟨_, rfl⟩, .inl ⟨[], rfl, hj2⟩⟩

set_option maxRecDepth 100000 in
theorem modified_nil {α : Type} (encs : α → Array Value) {w : World} {B1 : Nat} (h1 : Blk w B1 [.pointer none] 61) (n : Nat) (hn : 8 ≤ n) :
    SeqF Fence.wide n Try.prog 166 #[.pointer (some ⟨B1, 0, none⟩)] encs (fun _ _ => True) (fun xs => xs = []) (fun _ => False) 0 w := by
  intro l J Jx W hW hJ hJx hY h0
  have h1n : 1 ≤ n := by omega
  have b1 := h1.call hW
  have HJ := Aside0.mk hJ
  have H0 := Aside0.mk h0
  have c1 := (b1.alloc (.cells #[.func (.yield l) #[] #[]] 31)).cell 0
  simp only [List.getElem?_cons_zero] at c1
  have hit := n108 none (W.alloc (.cells #[.func (.yield l) #[] #[]] 31))
  simp only [World.size_alloc] at hit
  clear h1 b1 hW hJ hJx hY h0
  refine callsIn_of_wp_marks Try.func166 rfl trivial ?_ rfl
  simp only [Try.ntmps166, List.size_toArray, List.length_cons, List.length_nil, Nat.reduceAdd, Nat.reduceSub, Array.replicate_succ, Array.replicate_zero, List.push_toArray, List.append_toArray, List.nil_append, List.cons_append]
  gi_wp2_with (first
    | (refine ⟨trivial, ?_⟩; gi_at_call 108; (with_reducible refine (callsIn_wide.2 hit).mono ?_); rintro e w1 ⟨rfl, rfl⟩))
  have K0 := ((Keep.refl [] W).alloc (.cells #[.func (.yield l) #[] #[]] 31)).alloc (.cells #[.pointer none] 61)
  have a3 := Blk.new (W.alloc (.cells #[.func (.yield l) #[] #[]] 31)) [.pointer none] 61
  simp only [World.size_alloc] at a3
  generalize (W.alloc (.cells #[.func (.yield l) #[] #[]] 31)).alloc (.cells #[.pointer none] 61) = V0 at *
  refine wpIn_range_none (F := Fence.wide) (n := n) (α := Int × Value) rfl (by omega) (gf := 163) (lb := #[.pointer (some ⟨W.heap.size + 1, 0, none⟩)]) rfl trivial (enters_of Try.func163 (by kernel_rfl) rfl)
    (fields_nil (fun x => #[.int .i64 x.1, x.2]) a3 (n - 1) (by omega)) (fun _ => rfl) (fun V => J [] V) (fun _ A B row hs hg hr => HJ.out _ A B row hs hg (fun r e => ⟨by have := (hr r e).1; have := K0.size; omega, (hr r e).2⟩)) (abides_keep (abides_own HJ.out) H0.out K0) ?_
  intro D V hD hj hKD
  have hj2 := HJ.out.putObj (.deferred none) hj (by have := K0.size; omega) hKD rfl
  gi_wp2
  refine ⟨by simp, .inl ⟨_, _, rfl, run_takeDeferred hKD, ?_⟩⟩
  exact ⟨_, results_none rfl _ _ _, ⟨_, rfl⟩, .inl ⟨[], rfl, hj2⟩⟩

set_option maxRecDepth 100000 in
theorem n121 (w : World) : Calls Try.prog 121 #[.pointer none] w fun e w' => e = .returned (.tuple #[]) ∧ Below w.heap.size w w' := by
  refine (callsIn_wide (n := 20)).1 ?_
  have hit := attrs_calls' none (w.alloc (.cells #[.pointer none] 61))
  simp only [World.size_alloc] at hit
  have c1 := (Blk.new w [.pointer none] 61).cell 0
  simp only [List.getElem?_cons_zero] at c1
  refine callsIn_of_wp_marks Try.func121 rfl trivial ?_ rfl
  simp only [Try.ntmps121, List.size_toArray, List.length_cons, List.length_nil, Nat.reduceAdd, Nat.reduceSub, Array.replicate_succ, Array.replicate_zero, List.push_toArray, List.append_toArray, List.nil_append, List.cons_append]
  gi_wp2_with (first
    | (refine ⟨trivial, ?_⟩; gi_at_call 158; (with_reducible refine (callsIn_wide.2 hit).mono ?_); rintro e w1 ⟨rfl, rfl⟩))
  have a3 := Blk.new (w.alloc (.cells #[.pointer none] 61)) [.pointer none] 61
  simp only [World.size_alloc] at a3
  have K1 := ((Keep.refl [] w).alloc (.cells #[.pointer none] 61)).alloc (.cells #[.pointer none] 61)
  have hsz : ((w.alloc (.cells #[.pointer none] 61)).alloc (.cells #[.pointer none] 61)).heap.size = w.heap.size + 2 := by simp only [World.size_alloc]
  clear c1
  generalize ((w.alloc (.cells #[.pointer none] 61)).alloc (.cells #[.pointer none] 61)) = W at *
  refine wpIn_range_none (F := Fence.wide) (n := 20) (α := Int) rfl (by decide) (gf := 183) (lb := #[.pointer (some ⟨w.heap.size + 1, 0, none⟩)]) rfl trivial (enters_of Try.func183 (by kernel_rfl) rfl)
    (attrs_nil (fun x => #[.int .i64 x]) a3 19 (by decide)) (fun _ => rfl) (fun V => Keep [] w V) (ownFrom_keep (by omega)) K1 ?_
  intro D V hD hK hKD
  gi_wp2
  refine ⟨by simp, .inl ⟨_, _, rfl, run_takeDeferred hKD, ?_⟩⟩
  exact ⟨_, results_none rfl _ _ _, rfl, (hK.putObj (by omega)).below⟩

set_option maxRecDepth 100000 in
theorem n114 (w : World) : Calls Try.prog 114 #[.pointer none] w fun e w' => e = .returned (.int .i64 0) ∧ Below w.heap.size w w' := by
  refine (callsIn_wide (n := 20)).1 ?_
  have hit := n108 none ((w.alloc (.cells #[.pointer none] 61)).alloc (.cells #[.int .i64 0] 3))
  simp only [World.size_alloc] at hit
  have c1 := ((Blk.new w [.pointer none] 61).alloc (.cells #[.int .i64 0] 3)).cell 0
  simp only [List.getElem?_cons_zero] at c1
  refine callsIn_of_wp_marks Try.func114 rfl trivial ?_ rfl
  simp only [Try.ntmps114, List.size_toArray, List.length_cons, List.length_nil, Nat.reduceAdd, Nat.reduceSub, Array.replicate_succ, Array.replicate_zero, List.push_toArray, List.append_toArray, List.nil_append, List.cons_append]
  gi_wp2_with (first
    | (refine ⟨trivial, ?_⟩; gi_at_call 108; (with_reducible refine (callsIn_wide.2 hit).mono ?_); rintro e w1 ⟨rfl, rfl⟩))
  have a3 := Blk.new ((w.alloc (.cells #[.pointer none] 61)).alloc (.cells #[.int .i64 0] 3)) [.pointer none] 61
  simp only [World.size_alloc] at a3
  have K1 := (((Keep.refl [] w).alloc (.cells #[.pointer none] 61)).alloc (.cells #[.int .i64 0] 3)).alloc (.cells #[.pointer none] 61)
  have hsz : (((w.alloc (.cells #[.pointer none] 61)).alloc (.cells #[.int .i64 0] 3)).alloc (.cells #[.pointer none] 61)).heap.size = w.heap.size + 3 := by simp only [World.size_alloc]
  have a2 := (Blk.new (w.alloc (.cells #[.pointer none] 61)) [.int .i64 0] 3).alloc (.cells #[.pointer none] 61)
  simp only [World.size_alloc] at a2
  clear c1
  generalize (((w.alloc (.cells #[.pointer none] 61)).alloc (.cells #[.int .i64 0] 3)).alloc (.cells #[.pointer none] 61)) = W at *
  refine wpIn_range_none (F := Fence.wide) (n := 20) (α := Int × Value) rfl (by decide) (gf := 163) (lb := #[.pointer (some ⟨w.heap.size + 1 + 1, 0, none⟩)]) rfl trivial (enters_of Try.func163 (by kernel_rfl) rfl)
    (fields_nil (fun x => #[.int .i64 x.1, x.2]) a3 19 (by decide)) (fun _ => rfl) (fun V => Blk V (w.heap.size + 1) [.int .i64 0] 3 ∧ Keep [] w V) (OwnFrom.and (ownFrom_blk (f := fun _ : Unit => [Value.int .i64 0])) (ownFrom_keep (by omega))) ⟨a2, K1⟩ ?_
  rintro D V hD ⟨hb, hK⟩ hKD
  have c0 := hb.cell 0
  simp only [List.getElem?_cons_zero] at c0
  gi_wp2
  refine ⟨by simp, .inl ⟨_, _, rfl, run_takeDeferred hKD, ?_⟩⟩
  exact ⟨_, results_tmp rfl _ _ _, rfl, (hK.putObj (by omega)).below⟩

set_option maxRecDepth 100000 in
theorem n111 (n : Int) (w : World) : Calls Try.prog 111 #[.pointer none, .int .i64 n] w fun e w' => e = .returned (.int .i64 0) ∧ Below w.heap.size w w' := by
  refine (callsIn_wide (n := 20)).1 ?_
  have hit := n109 n (w.alloc (.cells #[.int .i64 0] 3))
  simp only [World.size_alloc] at hit
  refine callsIn_of_wp_marks Try.func111 rfl trivial ?_ rfl
  simp only [Try.ntmps111, List.size_toArray, List.length_cons, List.length_nil, Nat.reduceAdd, Nat.reduceSub, Array.replicate_succ, Array.replicate_zero, List.push_toArray, List.append_toArray, List.nil_append, List.cons_append]
  gi_wp2_with (first
    | (refine ⟨trivial, ?_⟩; gi_at_call 109; (with_reducible refine (callsIn_wide.2 hit).mono ?_); rintro e w1 ⟨rfl, rfl⟩))
  have a3 := (Blk.new (w.alloc (.cells #[.int .i64 0] 3)) [.pointer none] 61).alloc (.cells #[.int .i64 n] 3)
  have a4 := Blk.new ((w.alloc (.cells #[.int .i64 0] 3)).alloc (.cells #[.pointer none] 61)) [.int .i64 n] 3
  have a2 := ((Blk.new w [.int .i64 0] 3).alloc (.cells #[.pointer none] 61)).alloc (.cells #[.int .i64 n] 3)
  simp only [World.size_alloc] at a2 a3 a4
  have K1 := (((Keep.refl [] w).alloc (.cells #[.int .i64 0] 3)).alloc (.cells #[.pointer none] 61)).alloc (.cells #[.int .i64 n] 3)
  have hsz : (((w.alloc (.cells #[.int .i64 0] 3)).alloc (.cells #[.pointer none] 61)).alloc (.cells #[.int .i64 n] 3)).heap.size = w.heap.size + 3 := by simp only [World.size_alloc]
  generalize (((w.alloc (.cells #[.int .i64 0] 3)).alloc (.cells #[.pointer none] 61)).alloc (.cells #[.int .i64 n] 3)) = W at *
  refine wpIn_range_noneW (F := Fence.wide) (n := 20) (α := Int) rfl (by decide) (gf := 164) (lb := #[.pointer (some ⟨w.heap.size + 1, 0, none⟩), .pointer (some ⟨w.heap.size + 1 + 1, 0, none⟩)]) rfl trivial (enters_of Try.func164 (by kernel_rfl) rfl)
    (places_nil (fun x => #[.int .i64 x]) a3 a4 19 (by decide)) (set_other2 _ _) (fun _ => rfl) (fun V => Blk V (w.heap.size) [.int .i64 0] 3 ∧ Keep [] w V)
    (OwnFrom.and (ownFrom_blk (f := fun _ : Unit => [Value.int .i64 0])) (ownFrom_keep (by omega)))
    (fun V hV => ⟨(a2.keep hV (by simp)).other (p := ⟨w.heap.size + 1 + 1, 0, none⟩) (by show w.heap.size ≠ w.heap.size + 1 + 1; omega) _, (K1.trans hV (by simp)).setCell (p := ⟨w.heap.size + 1 + 1, 0, none⟩) (.inr (by show w.heap.size ≤ w.heap.size + 1 + 1; omega)) _⟩) ?_
  rintro D V hD ⟨hb, hK⟩ hKD
  have c0 := hb.cell 0
  simp only [List.getElem?_cons_zero] at c0
  gi_wp2
  refine ⟨by simp, .inl ⟨_, _, rfl, run_takeDeferred hKD, ?_⟩⟩
  exact ⟨_, results_tmp rfl _ _ _, rfl, (hK.putObj (by omega)).below⟩

set_option maxRecDepth 100000 in
theorem n112 (n : Int) (w : World) : Calls Try.prog 112 #[.pointer none, .int .i64 n] w fun e w' => e = .returned (.slice none 0 0) ∧ Below w.heap.size w w' := by
  refine (callsIn_wide (n := 20)).1 ?_
  have hit := n109 n ((w.alloc (.cells #[.pointer none] 61)).alloc (.cells #[.slice none 0 0] 36))
  simp only [World.size_alloc] at hit
  have c1 := ((Blk.new w [.pointer none] 61).alloc (.cells #[.slice none 0 0] 36)).cell 0
  simp only [List.getElem?_cons_zero] at c1
  refine callsIn_of_wp_marks Try.func112 rfl trivial ?_ rfl
  simp only [Try.ntmps112, List.size_toArray, List.length_cons, List.length_nil, Nat.reduceAdd, Nat.reduceSub, Array.replicate_succ, Array.replicate_zero, List.push_toArray, List.append_toArray, List.nil_append, List.cons_append]
  gi_wp2_with (first
    | (refine ⟨trivial, ?_⟩; gi_at_call 109; (with_reducible refine (callsIn_wide.2 hit).mono ?_); rintro e w1 ⟨rfl, rfl⟩))
  have a3 := (Blk.new ((w.alloc (.cells #[.pointer none] 61)).alloc (.cells #[.slice none 0 0] 36)) [.pointer none] 61).alloc (.cells #[.int .i64 n] 3)
  have a4 := Blk.new (((w.alloc (.cells #[.pointer none] 61)).alloc (.cells #[.slice none 0 0] 36)).alloc (.cells #[.pointer none] 61)) [.int .i64 n] 3
  have a2 := ((Blk.new (w.alloc (.cells #[.pointer none] 61)) [.slice none 0 0] 36).alloc (.cells #[.pointer none] 61)).alloc (.cells #[.int .i64 n] 3)
  simp only [World.size_alloc] at a2 a3 a4
  have K1 := ((((Keep.refl [] w).alloc (.cells #[.pointer none] 61)).alloc (.cells #[.slice none 0 0] 36)).alloc (.cells #[.pointer none] 61)).alloc (.cells #[.int .i64 n] 3)
  have hsz : ((((w.alloc (.cells #[.pointer none] 61)).alloc (.cells #[.slice none 0 0] 36)).alloc (.cells #[.pointer none] 61)).alloc (.cells #[.int .i64 n] 3)).heap.size = w.heap.size + 4 := by simp only [World.size_alloc]
  clear c1
  generalize ((((w.alloc (.cells #[.pointer none] 61)).alloc (.cells #[.slice none 0 0] 36)).alloc (.cells #[.pointer none] 61)).alloc (.cells #[.int .i64 n] 3)) = W at *
  refine wpIn_range_noneW (F := Fence.wide) (n := 20) (α := Int) rfl (by decide) (gf := 164) (lb := #[.pointer (some ⟨w.heap.size + 1 + 1, 0, none⟩), .pointer (some ⟨w.heap.size + 1 + 1 + 1, 0, none⟩)]) rfl trivial (enters_of Try.func164 (by kernel_rfl) rfl)
    (places_nil (fun x => #[.int .i64 x]) a3 a4 19 (by decide)) (set_other2 _ _) (fun _ => rfl) (fun V => Blk V (w.heap.size + 1) [.slice none 0 0] 36 ∧ Keep [] w V)
    (OwnFrom.and (ownFrom_blk (f := fun _ : Unit => [Value.slice none 0 0])) (ownFrom_keep (by omega)))
    (fun V hV => ⟨(a2.keep hV (by simp)).other (p := ⟨w.heap.size + 1 + 1 + 1, 0, none⟩) (by show w.heap.size + 1 ≠ w.heap.size + 1 + 1 + 1; omega) _, (K1.trans hV (by simp)).setCell (p := ⟨w.heap.size + 1 + 1 + 1, 0, none⟩) (.inr (by show w.heap.size ≤ w.heap.size + 1 + 1 + 1; omega)) _⟩) ?_
  rintro D V hD ⟨hb, hK⟩ hKD
  have c0 := hb.cell 0
  simp only [List.getElem?_cons_zero] at c0
  gi_wp2
  refine ⟨by simp, .inl ⟨_, _, rfl, run_takeDeferred hKD, ?_⟩⟩
  exact ⟨_, results_tmp rfl _ _ _, rfl, (hK.putObj (by omega)).below⟩

set_option maxRecDepth 100000 in
theorem n116 (n : Int) (w : World) : Calls Try.prog 116 #[.pointer none, .int .i64 n] w fun e w' => e = .returned (.bool false) ∧ Below w.heap.size w w' := by
  have k0 : Keep [] w w := Keep.refl [] w
  go_enter Try.func116, Try.ntmps116
  go_wp2_with (go_at_call 87; (with_reducible refine (n87 n _).mono ?_); rintro e w1 ⟨rfl, hb1⟩; have k1 := k0.call hb1)
  go_ret
  exact ⟨rfl, k1.below⟩

end Go.Proofs.Ytangandfgbnomaa.V
