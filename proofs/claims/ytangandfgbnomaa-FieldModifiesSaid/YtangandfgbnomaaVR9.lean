/- A loop over an iterator that stores into a box of its own before its first round. -/
import Derived.Test.YtangandfgbnomaaVR0
namespace Go.Proofs.Ytangandfgbnomaa.V
open Go.RowKit Go.Shelf
set_option linter.unusedVariables false
set_option linter.unusedSimpArgs false


/-- An iterator's contract, as SeqF: what the caller knows at the start it knows behind the iterator's own first store, too. -/
def SeqW {α : Type} (F : Fence) (n : Nat) (P : Program) (g : Nat) (lb : Array Value) (encs : α → Array Value) (Kp : World → World → Prop) (S Sp : List α → Prop) (N : Nat) (w : World) (τ : World → World) : Prop :=
  ∀ (l : Nat) (J Jx : List α → World → Prop) (W : World), Below w.heap.size w W → OwnFrom W.heap.size J → OwnFrom W.heap.size Jx →
    (∀ pre x V, J pre V → pre.length < N → YieldAt F (n - 1) P l (encs x) V fun e V' =>
      (e = .returned (.bool true) ∧ J (pre ++ [x]) V' ∧ Kp V V' ∧ KeepsFrom W.heap.size V V') ∨ (e = .returned (.bool false) ∧ Jx (pre ++ [x]) V' ∧ KeepsFrom W.heap.size V V')) →
    J [] (τ W) → CallsIn F n P g (#[.func (.yield l) #[] #[]] ++ lb) W fun e V' => (∃ v, e = .returned v) ∧ ((∃ xs, S xs ∧ J xs V') ∨ (∃ pre, Sp pre ∧ Jx pre V'))

section
variable {F : Fence} {n : Nat} {P : Program}
theorem wpIn_rangeW {α : Type} {g : Operand} {ps : Array Tmp} {assign body : Code} {Q : Exit → Act → World → Prop} {a : Act} {w : World}
    (hro : F.round = none) (h1 : 1 ≤ n) {gf : Nat} {lb : Array Value} (hg : a.eval g = .func (.func gf) #[] lb) (hFg : F.fn gf) (eg : ∀ args w, (callFunc gf args).run P w = .ok (.enter gf args) w)
    {encs : α → Array Value} {Kp : World → World → Prop} {S Sp : List α → Prop} {N : Nat} {w0 : World} {τ : World → World} (hseq : SeqW F (n - 1) P gf lb encs Kp S Sp N w0 τ) (hτ : ∀ (V : World) (k : Nat) (o : Obj), V.heap[k]? = some o → o.isCells = false → (τ V).heap[k]? = some o)
    (hKt : ∀ {A B C : World}, Kp A B → Kp B C → Kp A C) (hKb : ∀ (W : World) (l : Nat) (o o' : Obj), w.heap.size ≤ l → W.heap[l]? = some o → o.isCells = false → o.isWalk = false → Kp W (W.putObj l o')) (hb0 : Below w0.heap.size w0 w) (hps : ∀ x, (encs x).size = ps.size)
    (I : List α → World → Prop) (Ix : Code → List α → World → Prop) (hI : OwnFrom w.heap.size I) (hIx : ∀ c, OwnFrom w.heap.size (Ix c)) (h0 : ∀ V, Keep [] w V → I [] (τ V)) (Ax : α → Act → World → Prop) (hAx : ∀ x a', OwnFrom w.heap.size (fun (_ : Unit) W => Ax x a' W))
    (hassign : ∀ (l : Nat) (pre : List α) (x : α) (W : World) (K : Act → World → Prop), I pre W → pre.length < N → (∀ a' W', KeepsFrom w.heap.size W W' → Kp W W' → I pre W' → Ax x a' W' → K a' W') →
      assign.wpIn (F.inRound l) (n - 1 - 1) P (Exit.then K (fun _ _ _ => False)) { tmps := (ps.zip (encs x)).foldl (fun t (p, v) => t.setIfInBounds p v) a.tmps, defers := [] } W)
    (hbody : ∀ (l : Nat) (pre : List α) (x : α) (a' : Act) (W : World), w.heap.size ≤ l → (∃ r, W.heap[l]? = some (.loop r)) → I pre W → Ax x a' W → pre.length < N → body.wpIn (F.inRound l) (n - 1 - 1) P (ownPostG w.heap.size Kp I Ix (pre ++ [x]) W) a' W)
    (hdone : ∀ (D : Nat) (xs : List α) (W : World), w.heap.size ≤ D → S xs → I xs W → W.heap[D]? = some (.deferred (some [])) → Q .normal { a with defers := { target := .collected D, args := #[] } :: a.defers } W)
    (hstop : ∀ (D : Nat) (c : Code) (pre : List α) (W : World), w.heap.size ≤ D → Sp pre → Ix c pre W → W.heap[D]? = some (.deferred (some [])) → c.wpIn F n P Q { a with defers := { target := .collected D, args := #[] } :: a.defers } W) :
    (Code.rangeFunc g ps assign body).wpIn F n P Q a w := by
  refine wpIn_rangeFunc ?_
  intro fn hfn
  rw [hro]
  obtain ⟨D, hD⟩ : ∃ D, w.heap.size = D := ⟨_, rfl⟩
  obtain ⟨rec, hrec⟩ : ∃ rec : LoopState → Option Code → Loop, rec = fun st pe => { state := st, pending := pe, fn, tmps := a.tmps, params := ps, assign, body, defers := D } := ⟨_, rfl⟩
  obtain ⟨V, hV⟩ : ∃ V, (w.alloc (.deferred (some []))).alloc (.loop (rec .ready none)) = V := ⟨_, rfl⟩
  have hVs : V.heap.size = D + 2 := by rw [← hV, World.size_alloc, World.size_alloc, hD]
  have two : Two2 D (rec .ready none) V := by
    have t1 := World.alloc_heap_new (w.alloc (.deferred (some []))) (.loop (rec .ready none))
    have t2 := World.alloc_heap_new w (.deferred (some []))
    rw [World.size_alloc, hD] at t1
    rw [hD] at t2
    rw [← hV]
    exact ⟨t1, (Below.heap_alloc _ _ _ (by rw [World.size_alloc]; omega)).trans t2⟩
  have hIV : I [] (τ V) := h0 V (by rw [← hV]; exact ((Keep.refl [] w).alloc _).alloc _)
  have two' : Two2 D (rec .ready none) (τ V) := ⟨hτ _ _ _ two.1 rfl, hτ _ _ _ two.2 rfl⟩
  have hbV : Below w0.heap.size w0 V := by
    rw [← hV]; exact hb0.trans ((((Below.refl _ w).alloc (Nat.le_refl _) _).alloc (by simp) _).mono hb0.size)
  have own : ∀ {A B : World} {row : Option Nat}, (∀ r, row = some r → V.heap.size ≤ r ∧ ∃ o : Obj, A.heap[r]? = some o ∧ o.isCells = false) → (∀ r, row = some r → w.heap.size ≤ r ∧ ∃ o : Obj, A.heap[r]? = some o ∧ o.isCells = false) := by
    intro A B row hr r e
    exact ⟨by have := (hr r e).1; omega, (hr r e).2⟩
  refine ⟨D + 1, [{ target := .collected D, args := #[] }], V, { target := .fn (.func gf) lb, args := #[.func (.yield (D + 1)) #[] #[]] }, V, gf,
    #[.func (.yield (D + 1)) #[] #[]] ++ lb, V, ?enter, ?lead, ?fenced, ?call, fun _ => h1, ?walk⟩
  case enter =>
    have := run_enterLoop_outer (P := P) (w := w) fn a.tmps ps assign body
    rw [← hV, hrec]
    simpa [hD] using this
  case lead =>
    simp only [resolve, hg]
    simp [go_sem]
  case fenced =>
    intro f' hf'
    simp [Target.leads] at hf'
    subst hf'
    exact hFg
  case call => simp [invoke, go_sem, eg]
  case walk =>
    refine (hseq (D + 1) (fun pre W => I pre W ∧ Two2 D (rec .ready none) W) (fun pre W => ∃ c, Ix c pre W ∧ Two2 D (rec .done (some c)) W) V hbV
      (fun s A B row hs hg' hr => ⟨hI s A B row hs.1 hg' (own (B := B) hr), hs.2.grown hg' (fun r e => by have := (hr r e).1; omega)⟩)
      (fun s A B row hs hg' hr => by
        obtain ⟨c, hc, ht⟩ := hs
        exact ⟨c, hIx c s A B row hc hg' (own (B := B) hr), ht.grown hg' (fun r e => by have := (hr r e).1; omega)⟩)
      ?round ⟨hIV, two'⟩).mono ?behind
    case round =>
      rintro pre x W₀ ⟨hi₀, ht₀⟩ hlen
      have hy := run_yield (P := P) (args := encs x) ht₀.1 (by rw [hrec]; exact hps x)
      rw [hrec] at hy
      refine ⟨fn, _, assign, body, hy, roundIn_of_wpIn hfn (hassign _ pre x W₀ _ hi₀ hlen ?_)⟩
      clear hy
      intro a' W hka hkpa hi hax
      have ht := ht₀.kept (by omega) hka
      have hl := ht.1
      refine ⟨_, run_beginRound hl (by rw [hrec]), ?_⟩
      have ht2 := ht.put { rec .ready none with state := .busy }
      have hw2 : Kp W (W.putObj (D + 1) (.loop { rec .ready none with state := .busy })) := hKb _ _ _ _ (by omega) hl rfl rfl
      refine wpIn_mono (hbody _ pre x a' _ (by omega) ⟨_, ht2.1⟩ (hI.putObj _ hi (by omega) hl rfl) ((hAx x a').putObj (s := ()) _ hax (by omega) hl rfl) hlen) ?_
      have fin : ∀ (jump : Option Code) (U : World), KeepsFrom w.heap.size (W.putObj (D + 1) (.loop { rec .ready none with state := .busy })) U →
          (Instr.endRound (D + 1) jump).run P U = .ok (.bool jump.isNone) (U.putObj (D + 1) (.loop (rec (if jump.isNone then .ready else .done) jump))) ∧ Two2 D { rec .ready none with state := .busy } U := fun jump U hk => by
        have htU := ht2.kept (by omega) hk
        have hr := run_endRound (P := P) jump htU.1
        refine ⟨?_, htU⟩
        rw [hrec] at hr ⊢
        exact hr
      have left : ∀ (c : Code) (U : World), KeepsFrom w.heap.size (W.putObj (D + 1) (.loop { rec .ready none with state := .busy })) U → Ix c (pre ++ [x]) U →
          ∃ v U', (Instr.endRound (D + 1) (some c)).run P U = .ok v U' ∧ v = .bool false ∧ (∃ c', Ix c' (pre ++ [x]) U' ∧ Two2 D (rec .done (some c')) U') ∧ KeepsFrom V.heap.size W₀ U' := fun c U hk hx => by
        obtain ⟨hr, htU⟩ := fin (some c) U hk
        rw [hD] at hk hka
        refine ⟨_, _, hr, rfl, ⟨c, (hIx c).putObj _ hx (by omega) htU.1 rfl, htU.put _⟩, ?_⟩
        rw [hVs]
        exact (KeepsFrom.trans (B := D + 2) ⟨hka.size, fun k o hB hk ho => hka.same k o (by omega) hk ho⟩ (keeps_round (r := rec .ready none) hk))
      rintro e a3 U hp
      cases e with
      | normal =>
        obtain ⟨hk, hkp, hi3⟩ := hp
        obtain ⟨hr, htU⟩ := fin none U hk
        rw [hD] at hk hka
        refine ⟨_, _, hr, .inl ⟨rfl, ⟨hI.putObj _ hi3 (by omega) htU.1 rfl, htU.put _⟩, hKt hkpa (hKt (hKt hw2 hkp) (hKb _ _ _ _ (by omega) htU.1 rfl rfl)), ?_⟩⟩
        rw [hVs]
        exact (KeepsFrom.trans (B := D + 2) ⟨hka.size, fun k o hB hk ho => hka.same k o (by omega) hk ho⟩ (keeps_round (r := rec .ready none) hk))
      | ret =>
        obtain ⟨v, U', hr, rfl, hc, hk⟩ := left .ret U hp.1 hp.2
        exact ⟨_, _, hr, .inr ⟨rfl, hc, hk⟩⟩
      | exit id =>
        obtain ⟨v, U', hr, rfl, hc, hk⟩ := left (.exit id) U hp.1 hp.2
        exact ⟨_, _, hr, .inr ⟨rfl, hc, hk⟩⟩
      | goto t =>
        obtain ⟨v, U', hr, rfl, hc, hk⟩ := left (.goto t) U hp.1 hp.2
        exact ⟨_, _, hr, .inr ⟨rfl, hc, hk⟩⟩
      | panic ch => exact hp.elim
      | outgrown => exact hp.elim
    case behind =>
      rintro e U ⟨⟨v, rfl⟩, (⟨xs, hS, hi, ht⟩ | ⟨pre, hSp, c, hi, ht⟩)⟩
      · have hr := run_endLoop (P := P) ht.1 (by rw [hrec]; simp)
        exact ⟨none, _, by rw [hrec] at hr; exact hr, hdone D xs _ (by omega) hS (hI.putObj _ hi (by omega) ht.1 rfl) ((World.putObj_heap_other (by omega)).trans ht.2)⟩
      · have hr := run_endLoop (P := P) ht.1 (by rw [hrec]; simp)
        exact ⟨some c, _, by rw [hrec] at hr; exact hr, hstop D c pre _ (by omega) hSp ((hIx c).putObj _ hi (by omega) ht.1 rfl) ((World.putObj_heap_other (by omega)).trans ht.2)⟩
end

end Go.Proofs.Ytangandfgbnomaa.V
