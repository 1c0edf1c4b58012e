/- A loop over an iterator whose rounds may be handed on, from within another loop's rounds: the contract of such an iterator, and the law of the loop. -/
import Derived.Test.YtangandfgbnomaaVP0
namespace Go.Proofs.Ytangandfgbnomaa.V
open Go.RowKit Go.Shelf
set_option linter.unusedVariables false
set_option linter.unusedSimpArgs false

/-- An iterator's contract; a round that goes on keeps Kp, and whatever is no cells and was laid since the iterator was called. -/
def SeqF {α : Type} (F : Fence) (n : Nat) (P : Program) (g : Nat) (lb : Array Value) (encs : α → Array Value) (Kp : World → World → Prop) (S Sp : List α → Prop) (N : Nat) (w : World) : Prop :=
  ∀ (l : Nat) (J Jx : List α → World → Prop) (W : World), Below w.heap.size w W → OwnFrom W.heap.size J → OwnFrom W.heap.size Jx →
    (∀ pre x V, J pre V → pre.length < N → YieldAt F (n - 1) P l (encs x) V fun e V' =>
      (e = .returned (.bool true) ∧ J (pre ++ [x]) V' ∧ Kp V V' ∧ KeepsFrom W.heap.size V V') ∨ (e = .returned (.bool false) ∧ Jx (pre ++ [x]) V' ∧ KeepsFrom W.heap.size V V')) →
    J [] W → CallsIn F n P g (#[.func (.yield l) #[] #[]] ++ lb) W fun e V' => (∃ v, e = .returned v) ∧ ((∃ xs, S xs ∧ J xs V') ∨ (∃ pre, Sp pre ∧ Jx pre V'))

theorem abides_own {β : Type} {B : Nat} {J : β → World → Prop} (h : OwnFrom B J) : AbidesFrom B J := fun s X Y row hs hg hr => h s X Y row hs hg (fun r e => ⟨(hr r e).1, (hr r e).2.imp (fun _ ho => ⟨ho.1, Obj.not_cells_of_walk ho.2⟩)⟩)
theorem SeqF.of_stops {α : Type} {F : Fence} {n : Nat} {P : Program} {g : Nat} {lb : Array Value} {encs : α → Array Value} {Kp : World → World → Prop} {S Sp : List α → Prop} {N : Nat} {w : World}
    (h : SeqStopsK F n P g lb encs Kp S Sp N w) : SeqF F n P g lb encs Kp S Sp N w := fun l J Jx W hW hJ hJx hY h0 =>
  h l J Jx W hW (abides_own hJ) (abides_own hJx) (fun pre x V hj hl => (hY pre x V hj hl).mono (by
    rintro e V' (⟨a, b, c, _⟩ | h)
    · exact .inl ⟨a, b, c⟩
    · exact .inr ⟨h.1, h.2.1⟩)) h0

/-- A loop's own two blocks: its record; its rounds' deferred calls: none. -/
def Two2 (D : Nat) (r : Loop) (W : World) : Prop := W.heap[D + 1]? = some (.loop r) ∧ W.heap[D]? = some (.deferred (some []))
theorem Two2.kept {D B : Nat} {r : Loop} {W W' : World} (h : Two2 D r W) (hB : B ≤ D) (k : KeepsFrom B W W') : Two2 D r W' := ⟨k.same _ _ (by omega) h.1 rfl, k.same _ _ hB h.2 rfl⟩
theorem Two2.put {D : Nat} {r : Loop} {W : World} (h : Two2 D r W) (r' : Loop) : Two2 D r' (W.putObj (D + 1) (.loop r')) :=
  ⟨World.putObj_heap_same (Array.getElem?_eq_some_iff.1 h.1).1, (World.putObj_heap_other (by omega)).trans h.2⟩
theorem Two2.grown {D : Nat} {r : Loop} {W W' : World} {row : Option Nat} (h : Two2 D r W) (hg : W.grownBy W' row) (hr : ∀ x, row = some x → D + 2 ≤ x) : Two2 D r W' :=
  ⟨(hg.block _ (Array.getElem?_eq_some_iff.1 h.1).1 (fun e => by have := hr _ e.symm; omega)).trans h.1, (hg.block _ (Array.getElem?_eq_some_iff.1 h.2).1 (fun e => by have := hr _ e.symm; omega)).trans h.2⟩
/-- What a whole round keeps of what was laid behind the loop's two blocks. -/
theorem keeps_round {D : Nat} {r : Loop} {W V : World} {a b : Obj} (k : KeepsFrom D (W.putObj (D + 1) a) V) : KeepsFrom (D + 2) W (V.putObj (D + 1) b) :=
  ⟨by have := k.size; simpa using this, fun i o hi ho hc => (World.putObj_heap_other (by omega)).trans (k.same i o (by omega) ((World.putObj_heap_other (by omega)).trans ho) hc)⟩

section
variable {F : Fence} {n : Nat} {P : Program}
theorem wpIn_rangeF {α : Type} {g : Operand} {ps : Array Tmp} {assign body : Code} {Q : Exit → Act → World → Prop} {a : Act} {w : World}
    (hro : F.round = none) (h1 : 1 ≤ n) {gf : Nat} {lb : Array Value} (hg : a.eval g = .func (.func gf) #[] lb) (hFg : F.fn gf) (eg : ∀ args w, (callFunc gf args).run P w = .ok (.enter gf args) w)
    {encs : α → Array Value} {Kp : World → World → Prop} {S Sp : List α → Prop} {N : Nat} {w0 : World} (hseq : SeqF F (n - 1) P gf lb encs Kp S Sp N w0)
    (hKt : ∀ {A B C : World}, Kp A B → Kp B C → Kp A C) (hKb : ∀ (W : World) (l : Nat) (o o' : Obj), w.heap.size ≤ l → W.heap[l]? = some o → o.isCells = false → o.isWalk = false → Kp W (W.putObj l o')) (hb0 : Below w0.heap.size w0 w) (hps : ∀ x, (encs x).size = ps.size)
    (I : List α → World → Prop) (Ix : Code → List α → World → Prop) (hI : OwnFrom w.heap.size I) (hIx : ∀ c, OwnFrom w.heap.size (Ix c)) (h0 : I [] w) (Ax : α → Act → World → Prop) (hAx : ∀ x a', OwnFrom w.heap.size (fun (_ : Unit) W => Ax x a' W))
    (hassign : ∀ (l : Nat) (pre : List α) (x : α) (W : World) (K : Act → World → Prop), I pre W → pre.length < N → (∀ a' W', KeepsFrom w.heap.size W W' → Kp W W' → I pre W' → Ax x a' W' → K a' W') →
      assign.wpIn (F.inRound l) (n - 1 - 1) P (Exit.then K (fun _ _ _ => False)) { tmps := (ps.zip (encs x)).foldl (fun t (p, v) => t.setIfInBounds p v) a.tmps, defers := [] } W)
    (hbody : ∀ (l : Nat) (pre : List α) (x : α) (a' : Act) (W : World), w.heap.size ≤ l → (∃ r, W.heap[l]? = some (.loop r)) → I pre W → Ax x a' W → pre.length < N → body.wpIn (F.inRound l) (n - 1 - 1) P (ownPostG w.heap.size Kp I Ix (pre ++ [x]) W) a' W)
    (hdone : ∀ (D : Nat) (xs : List α) (W : World), w.heap.size ≤ D → S xs → I xs W → W.heap[D]? = some (.deferred (some [])) → Q .normal { a with defers := { target := .collected D, args := #[] } :: a.defers } W)
    (hstop : ∀ (D : Nat) (c : Code) (pre : List α) (W : World), w.heap.size ≤ D → Sp pre → Ix c pre W → W.heap[D]? = some (.deferred (some [])) → c.wpIn F n P Q { a with defers := { target := .collected D, args := #[] } :: a.defers } W) :
    (Code.rangeFunc g ps assign body).wpIn F n P Q a w := by
  refine wpIn_rangeFunc ?_
  intro fn hfn
  rw [hro]
  obtain ⟨D, hD⟩ : ∃ D, w.heap.size = D := ⟨_, rfl⟩
  obtain ⟨rec, hrec⟩ : ∃ rec : LoopState → Option Code → Loop, rec = fun st pe => { state := st, pending := pe, fn, tmps := a.tmps, params := ps, assign, body, defers := D } := ⟨_, rfl⟩
  obtain ⟨V, hV⟩ : ∃ V, (w.alloc (.deferred (some []))).alloc (.loop (rec .ready none)) = V := ⟨_, rfl⟩
  have hVs : V.heap.size = D + 2 := by rw [← hV, World.size_alloc, World.size_alloc, hD]
  have two : Two2 D (rec .ready none) V := by
    have t1 := World.alloc_heap_new (w.alloc (.deferred (some []))) (.loop (rec .ready none))
    have t2 := World.alloc_heap_new w (.deferred (some []))
    rw [World.size_alloc, hD] at t1
    rw [hD] at t2
    rw [← hV]
    exact ⟨t1, (Below.heap_alloc _ _ _ (by rw [World.size_alloc]; omega)).trans t2⟩
  have hIV : I [] V := by rw [← hV]; exact hI.alloc _ (hI.alloc _ h0)
  have hbV : Below w0.heap.size w0 V := by
    rw [← hV]; exact hb0.trans ((((Below.refl _ w).alloc (Nat.le_refl _) _).alloc (by simp) _).mono hb0.size)
  have own : ∀ {A B : World} {row : Option Nat}, (∀ r, row = some r → V.heap.size ≤ r ∧ ∃ o : Obj, A.heap[r]? = some o ∧ o.isCells = false) → (∀ r, row = some r → w.heap.size ≤ r ∧ ∃ o : Obj, A.heap[r]? = some o ∧ o.isCells = false) := by
    intro A B row hr r e
    exact ⟨by have := (hr r e).1; omega, (hr r e).2⟩
  refine ⟨D + 1, [{ target := .collected D, args := #[] }], V, { target := .fn (.func gf) lb, args := #[.func (.yield (D + 1)) #[] #[]] }, V, gf,
    #[.func (.yield (D + 1)) #[] #[]] ++ lb, V, ?enter, ?lead, ?fenced, ?call, fun _ => h1, ?walk⟩
  case enter =>
    have := run_enterLoop_outer (P := P) (w := w) fn a.tmps ps assign body
    rw [← hV, hrec]
    simpa [hD] using this
  case lead =>
    simp only [resolve, hg]
    simp [go_sem]
  case fenced =>
    intro f' hf'
    simp [Target.leads] at hf'
    subst hf'
    exact hFg
  case call => simp [invoke, go_sem, eg]
  case walk =>
    refine (hseq (D + 1) (fun pre W => I pre W ∧ Two2 D (rec .ready none) W) (fun pre W => ∃ c, Ix c pre W ∧ Two2 D (rec .done (some c)) W) V hbV
      (fun s A B row hs hg' hr => ⟨hI s A B row hs.1 hg' (own (B := B) hr), hs.2.grown hg' (fun r e => by have := (hr r e).1; omega)⟩)
      (fun s A B row hs hg' hr => by
        obtain ⟨c, hc, ht⟩ := hs
        exact ⟨c, hIx c s A B row hc hg' (own (B := B) hr), ht.grown hg' (fun r e => by have := (hr r e).1; omega)⟩)
      ?round ⟨hIV, two⟩).mono ?behind
    case round =>
      rintro pre x W₀ ⟨hi₀, ht₀⟩ hlen
      have hy := run_yield (P := P) (args := encs x) ht₀.1 (by rw [hrec]; exact hps x)
      rw [hrec] at hy
      refine ⟨fn, _, assign, body, hy, roundIn_of_wpIn hfn (hassign _ pre x W₀ _ hi₀ hlen ?_)⟩
      clear hy
      intro a' W hka hkpa hi hax
      have ht := ht₀.kept (by omega) hka
      have hl := ht.1
      refine ⟨_, run_beginRound hl (by rw [hrec]), ?_⟩
      have ht2 := ht.put { rec .ready none with state := .busy }
      have hw2 : Kp W (W.putObj (D + 1) (.loop { rec .ready none with state := .busy })) := hKb _ _ _ _ (by omega) hl rfl rfl
      refine wpIn_mono (hbody _ pre x a' _ (by omega) ⟨_, ht2.1⟩ (hI.putObj _ hi (by omega) hl rfl) ((hAx x a').putObj (s := ()) _ hax (by omega) hl rfl) hlen) ?_
      have fin : ∀ (jump : Option Code) (U : World), KeepsFrom w.heap.size (W.putObj (D + 1) (.loop { rec .ready none with state := .busy })) U →
          (Instr.endRound (D + 1) jump).run P U = .ok (.bool jump.isNone) (U.putObj (D + 1) (.loop (rec (if jump.isNone then .ready else .done) jump))) ∧ Two2 D { rec .ready none with state := .busy } U := fun jump U hk => by
        have htU := ht2.kept (by omega) hk
        have hr := run_endRound (P := P) jump htU.1
        refine ⟨?_, htU⟩
        rw [hrec] at hr ⊢
        exact hr
      have left : ∀ (c : Code) (U : World), KeepsFrom w.heap.size (W.putObj (D + 1) (.loop { rec .ready none with state := .busy })) U → Ix c (pre ++ [x]) U →
          ∃ v U', (Instr.endRound (D + 1) (some c)).run P U = .ok v U' ∧ v = .bool false ∧ (∃ c', Ix c' (pre ++ [x]) U' ∧ Two2 D (rec .done (some c')) U') ∧ KeepsFrom V.heap.size W₀ U' := fun c U hk hx => by
        obtain ⟨hr, htU⟩ := fin (some c) U hk
        rw [hD] at hk hka
        refine ⟨_, _, hr, rfl, ⟨c, (hIx c).putObj _ hx (by omega) htU.1 rfl, htU.put _⟩, ?_⟩
        rw [hVs]
        exact (KeepsFrom.trans (B := D + 2) ⟨hka.size, fun k o hB hk ho => hka.same k o (by omega) hk ho⟩ (keeps_round (r := rec .ready none) hk))
      rintro e a3 U hp
      cases e with
      | normal =>
        obtain ⟨hk, hkp, hi3⟩ := hp
        obtain ⟨hr, htU⟩ := fin none U hk
        rw [hD] at hk hka
        refine ⟨_, _, hr, .inl ⟨rfl, ⟨hI.putObj _ hi3 (by omega) htU.1 rfl, htU.put _⟩, hKt hkpa (hKt (hKt hw2 hkp) (hKb _ _ _ _ (by omega) htU.1 rfl rfl)), ?_⟩⟩
        rw [hVs]
        exact (KeepsFrom.trans (B := D + 2) ⟨hka.size, fun k o hB hk ho => hka.same k o (by omega) hk ho⟩ (keeps_round (r := rec .ready none) hk))
      | ret =>
        obtain ⟨v, U', hr, rfl, hc, hk⟩ := left .ret U hp.1 hp.2
        exact ⟨_, _, hr, .inr ⟨rfl, hc, hk⟩⟩
      | exit id =>
        obtain ⟨v, U', hr, rfl, hc, hk⟩ := left (.exit id) U hp.1 hp.2
        exact ⟨_, _, hr, .inr ⟨rfl, hc, hk⟩⟩
      | goto t =>
        obtain ⟨v, U', hr, rfl, hc, hk⟩ := left (.goto t) U hp.1 hp.2
        exact ⟨_, _, hr, .inr ⟨rfl, hc, hk⟩⟩
      | panic ch => exact hp.elim
      | outgrown => exact hp.elim
    case behind =>
      rintro e U ⟨⟨v, rfl⟩, (⟨xs, hS, hi, ht⟩ | ⟨pre, hSp, c, hi, ht⟩)⟩
      · have hr := run_endLoop (P := P) ht.1 (by rw [hrec]; simp)
        exact ⟨none, _, by rw [hrec] at hr; exact hr, hdone D xs _ (by omega) hS (hI.putObj _ hi (by omega) ht.1 rfl) ((World.putObj_heap_other (by omega)).trans ht.2)⟩
      · have hr := run_endLoop (P := P) ht.1 (by rw [hrec]; simp)
        exact ⟨some c, _, by rw [hrec] at hr; exact hr, hstop D c pre _ (by omega) hSp ((hIx c).putObj _ hi (by omega) ht.1 rfl) ((World.putObj_heap_other (by omega)).trans ht.2)⟩
end

/-- A loop over an iterator that tells nothing. -/
theorem wpIn_range_none {F : Fence} {n : Nat} {P : Program} {α : Type} {g : Operand} {ps : Array Tmp} {assign body : Code} {Q : Exit → Act → World → Prop} {a : Act} {w : World}
    (hro : F.round = none) (h1 : 1 ≤ n) {gf : Nat} {lb : Array Value} (hg : a.eval g = .func (.func gf) #[] lb) (hFg : F.fn gf) (eg : ∀ args w, (callFunc gf args).run P w = .ok (.enter gf args) w)
    {encs : α → Array Value} (hseq : SeqF F (n - 1) P gf lb encs (fun _ _ => True) (fun xs => xs = []) (fun _ => False) 0 w) (hps : ∀ x, (encs x).size = ps.size)
    (I : World → Prop) (hI : OwnFrom w.heap.size (fun (_ : Unit) => I)) (h0 : I w)
    (hdone : ∀ (D : Nat) (W : World), w.heap.size ≤ D → I W → W.heap[D]? = some (.deferred (some [])) → Q .normal { a with defers := { target := .collected D, args := #[] } :: a.defers } W) :
    (Code.rangeFunc g ps assign body).wpIn F n P Q a w :=
  wpIn_rangeF hro h1 hg hFg eg hseq (fun _ _ => trivial) (fun _ _ _ _ _ _ _ _ => trivial) (Below.refl _ _) hps (fun _ W => I W) (fun _ _ _ => False)
    (fun _ A B row hs hg hr => hI () A B row hs hg hr) (fun _ _ _ _ _ hs _ _ => hs) h0 (fun _ _ _ => False) (fun _ _ _ _ _ _ hs _ _ => hs)
    (fun _ _ _ _ _ _ hl _ => absurd hl (Nat.not_lt_zero _)) (fun _ _ _ _ _ _ _ _ h _ => h.elim) (fun D xs W hD _ hi hk => hdone D W hD hi hk) (fun _ _ _ _ _ h => h.elim)

/-- A round's contract of the wide fence, within another loop's round. -/
theorem round_wide {n m l l' : Nat} {P : Program} {f : FuncId} {tmps : Array Value} {assign body : Code} {w : World} {R : Ending → World → Prop} (h : RoundIn Fence.wide n P l f tmps assign body w R) : RoundIn (Fence.wide.inRound l') m P l f tmps assign body w R :=
  ⟨trivial, fun c cs _ => h.2 c cs (room_wide _)⟩
theorem yield_wide {n m l l' : Nat} {P : Program} {args : Array Value} {w : World} {R : Ending → World → Prop} (h : YieldAt Fence.wide n P l args w R) : YieldAt (Fence.wide.inRound l') m P l args w R := by
  obtain ⟨fn, tmps, assign, body, hy, hR⟩ := h
  exact ⟨fn, tmps, assign, body, hy, round_wide hR⟩

/-- What Kp lets be: it joins; what turns no cells, from n0 on, is let. -/
structure Lets (Kp : World → World → Prop) (good : World → Prop) (n0 : Nat) : Prop where
  trans : ∀ {A B C : World}, Kp A B → Kp B C → Kp A C
  put : ∀ (W : World) (l : Nat) (o o' : Obj), n0 ≤ l → W.heap[l]? = some o → o.isCells = false → Kp W (W.putObj l o')
  grown : ∀ (W W' : World) (row : Option Nat), W.grownBy W' row → (∀ r, row = some r → n0 ≤ r ∧ ∃ o : Obj, W.heap[r]? = some o ∧ o.isCells = false) → good W → Kp W W'
theorem Lets.keep {Kp : World → World → Prop} {good : World → Prop} {n0 : Nat} (h : Lets Kp good n0) {W W' : World} (k : Keep [] W W') (hg : good W) : Kp W W' :=
  h.grown W W' none ⟨k.os, k.tape, k.output, k.size, fun i hi _ => k.block i hi (by simp)⟩ (fun r e => by cases e) hg
theorem Lets.up {Kp : World → World → Prop} {good : World → Prop} {n0 n1 : Nat} (h : Lets Kp good n0) (hn : n0 ≤ n1) : Lets Kp good n1 :=
  ⟨h.trans, fun W l o o' hl => h.put W l o o' (by omega), fun W W' row hg hr => h.grown W W' row hg (fun r e => ⟨by have := (hr r e).1; omega, (hr r e).2⟩)⟩
theorem lets_kc {R : List Nat} {good : World → Prop} (n0 : Nat) : Lets (KC R) good n0 where
  trans h k := h.trans k
  put W l o o' _ h ho := KC.put h ho
  grown W W' row hg hr _ := ⟨hg.size, fun k o _ ho hc => (hg.block k (Array.getElem?_eq_some_iff.1 ho).1 (fun e => by
    obtain ⟨_, o', ho', hc'⟩ := hr k e.symm
    rw [ho] at ho'; cases ho'; rw [hc] at hc'; cases hc')).trans ho⟩
theorem lets_ko {B n0 : Nat} (hB : B < n0) : Lets (KO B) (fun W => B < W.heap.size ∧ ∀ k, owned B W k → k < W.heap.size) n0 where
  trans h k := h.trans k
  put W l o o' hl h ho := KO.put (by omega) h ho
  grown W W' row hg hr hgd := by
    have hblk : ∀ (k : Nat) (o : Obj), W.heap[k]? = some o → o.isCells = true → W'.heap[k]? = some o := fun k (o : Obj) ho hc => (hg.block k (Array.getElem?_eq_some_iff.1 ho).1 (fun e => by
      obtain ⟨_, o', ho', hc'⟩ := hr k e.symm
      rw [ho] at ho'; cases ho'; rw [hc] at hc'; cases hc')).trans ho
    refine ⟨hg.size, fun k o _ _ ho hc => hblk k o ho hc, fun k hk => .inl ?_⟩
    unfold owned at hk ⊢
    rw [World.cell?_of_block (a := ⟨B, 0, none⟩) (hg.block B hgd.1 (fun e => by have := (hr B e.symm).1; omega))] at hk
    exact hk
/-- A safe block of cells lies as it lay behind whatever turns no cells. -/
theorem good_own {β : Type} {Kp : World → World → Prop} {safe : World → Nat → Prop} {good : World → Prop} {n0 : Nat} (hS : Safe Kp safe good) (hL : Lets Kp good n0) {X t : Nat} {cs : List Value} :
    OwnFrom n0 (fun (_ : β) W => good W ∧ safe W X ∧ Blk W X cs t) := by
  intro x W W' row ⟨h1, h2, h3⟩ hg hr
  have hk := hL.grown W W' row hg hr h1
  refine ⟨hS.gkp _ _ hk h1, hS.kp _ _ _ hk h3.lt h2, (hg.block X h3.lt (fun e => ?_)).trans h3⟩
  obtain ⟨_, o, ho, hc⟩ := hr X e.symm
  rw [show W.heap[X]? = _ from h3] at ho
  cases ho; cases hc

/-- Six words written into a block. -/
def put6 (W : World) (n : Nat) (v0 v1 v2 v3 v4 v5 : Value) : World := (((((W.setCell ⟨n, 0, none⟩ v0).setCell ⟨n, 1, none⟩ v1).setCell ⟨n, 2, none⟩ v2).setCell ⟨n, 3, none⟩ v3).setCell ⟨n, 4, none⟩ v4).setCell ⟨n, 5, none⟩ v5
theorem put6_other (W : World) (n : Nat) (v0 v1 v2 v3 v4 v5 : Value) (i : Nat) (hi : i ≠ n) : (put6 W n v0 v1 v2 v3 v4 v5).heap[i]? = W.heap[i]? := by
  unfold put6
  rw [Below.heap_setCell _ _ _ i hi, Below.heap_setCell _ _ _ i hi, Below.heap_setCell _ _ _ i hi, Below.heap_setCell _ _ _ i hi, Below.heap_setCell _ _ _ i hi, Below.heap_setCell _ _ _ i hi]
theorem put6_blk {W : World} {n t : Nat} {z0 z1 z2 z3 z4 z5 : Value} (h : Blk W n [z0, z1, z2, z3, z4, z5] t) (v0 v1 v2 v3 v4 v5 : Value) : Blk (put6 W n v0 v1 v2 v3 v4 v5) n [v0, v1, v2, v3, v4, v5] t :=
  (((((h.set 0 v0).set 1 v1).set 2 v2).set 3 v3).set 4 v4).set 5 v5
def rest4 (a b : World) : Prop := a.tape = b.tape ∧ a.drawn = b.drawn ∧ a.os = b.os ∧ a.output = b.output
theorem rest4.trans {a b c : World} (h : rest4 a b) (k : rest4 b c) : rest4 a c := ⟨h.1.trans k.1, h.2.1.trans k.2.1, h.2.2.1.trans k.2.2.1, h.2.2.2.trans k.2.2.2⟩
theorem rest4.set (w : World) (p : Addr) (v : Value) : rest4 (w.setCell p v) w := ⟨rfl, rfl, rfl, rfl⟩
theorem rest4.alloc (w : World) (o : Obj) : rest4 (w.alloc o) w := ⟨rfl, rfl, rfl, rfl⟩
theorem rest4.eq {a b : World} (h : rest4 a b) (hh : a.heap = b.heap) : a = b := by
  obtain ⟨a1, a2, a3, a4, a5⟩ := a
  obtain ⟨b1, b2, b3, b4, b5⟩ := b
  obtain ⟨h1, h2, h3, h4⟩ := h
  simp only at h1 h2 h3 h4 hh
  rw [h1, h2, h3, h4, hh]
theorem put6_rest (W : World) (n : Nat) (v0 v1 v2 v3 v4 v5 : Value) : rest4 (put6 W n v0 v1 v2 v3 v4 v5) W :=
  (rest4.set _ _ _).trans ((rest4.set _ _ _).trans ((rest4.set _ _ _).trans ((rest4.set _ _ _).trans ((rest4.set _ _ _).trans (rest4.set _ _ _)))))
/-- A new cell, and its six words written: a new cell of these. -/
theorem new6 (V : World) (z0 z1 z2 z3 z4 z5 v0 v1 v2 v3 v4 v5 : Value) : put6 (V.alloc (.cells #[z0, z1, z2, z3, z4, z5] 60)) V.heap.size v0 v1 v2 v3 v4 v5 = V.alloc (.cells #[v0, v1, v2, v3, v4, v5] 60) := by
  obtain ⟨W, hW⟩ : ∃ W, V.alloc (.cells #[z0, z1, z2, z3, z4, z5] 60) = W := ⟨_, rfl⟩
  have b := Blk.new V [z0, z1, z2, z3, z4, z5] 60
  have hs : W.heap.size = V.heap.size + 1 := by rw [← hW, World.size_alloc]
  have hb : ∀ i, i < V.heap.size → W.heap[i]? = V.heap[i]? := fun i h => by rw [← hW, Below.heap_alloc _ _ _ h]
  have hr : rest4 W V := by rw [← hW]; exact rest4.alloc _ _
  rw [hW]
  have b2 : Blk W V.heap.size [z0, z1, z2, z3, z4, z5] 60 := by rw [← hW]; exact b
  have b3 := put6_blk b2 v0 v1 v2 v3 v4 v5
  have hh : (put6 W V.heap.size v0 v1 v2 v3 v4 v5).heap = (V.alloc (.cells #[v0, v1, v2, v3, v4, v5] 60)).heap := by
    apply Array.ext_getElem?
    intro i
    by_cases e : i = V.heap.size
    · subst e
      rw [show _ = _ from b3, World.alloc_heap_new]
    · rw [put6_other _ _ _ _ _ _ _ _ i e]
      by_cases h : i < V.heap.size
      · rw [hb i h, Below.heap_alloc _ _ _ h]
      · rw [Array.getElem?_eq_none (by omega), Array.getElem?_eq_none (by rw [World.size_alloc]; omega)]
  have h2 : rest4 V (V.alloc (.cells #[v0, v1, v2, v3, v4, v5] 60)) := ⟨rfl, rfl, rfl, rfl⟩
  exact (((put6_rest _ _ _ _ _ _ _ _).trans hr).trans h2).eq hh

end Go.Proofs.Ytangandfgbnomaa.V
