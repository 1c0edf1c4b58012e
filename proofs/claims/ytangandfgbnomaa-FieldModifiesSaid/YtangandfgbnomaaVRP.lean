/- Iterators whose rounds know which element has come: the contract, the law, all cells, the attributes' places. -/
import Derived.Test.YtangandfgbnomaaVR2
namespace Go.Proofs.Ytangandfgbnomaa.V
open Go.RowKit Go.Shelf
set_option linter.unusedVariables false
set_option linter.unusedSimpArgs false


attribute [local go_sem] Oper.semAt_some
/-- An iterator's contract, as SeqF; a round knows of its element what Pr says. -/
def SeqP {α : Type} (F : Fence) (n : Nat) (P : Program) (g : Nat) (lb : Array Value) (encs : α → Array Value) (Kp : World → World → Prop) (Pr : List α → α → Prop) (S Sp : List α → Prop) (N : Nat) (w : World) : Prop :=
  ∀ (l : Nat) (J Jx : List α → World → Prop) (W : World), Below w.heap.size w W → OwnFrom W.heap.size J → OwnFrom W.heap.size Jx →
    (∀ pre x V, J pre V → Pr pre x → pre.length < N → YieldAt F (n - 1) P l (encs x) V fun e V' =>
      (e = .returned (.bool true) ∧ J (pre ++ [x]) V' ∧ Kp V V' ∧ KeepsFrom W.heap.size V V') ∨ (e = .returned (.bool false) ∧ Jx (pre ++ [x]) V' ∧ KeepsFrom W.heap.size V V')) →
    J [] W → CallsIn F n P g (#[.func (.yield l) #[] #[]] ++ lb) W fun e V' => (∃ v, e = .returned v) ∧ ((∃ xs, S xs ∧ J xs V') ∨ (∃ pre, Sp pre ∧ Jx pre V'))
theorem SeqP.seqF {α : Type} {F : Fence} {n : Nat} {P : Program} {g : Nat} {lb : Array Value} {encs : α → Array Value} {Kp : World → World → Prop} {Pr : List α → α → Prop} {S Sp : List α → Prop} {N : Nat} {w : World}
    (h : SeqP F n P g lb encs Kp Pr S Sp N w) : SeqF F n P g lb encs Kp S Sp N w := fun l J Jx W hW hJ hJx hY h0 => h l J Jx W hW hJ hJx (fun pre x V hj _ hl => hY pre x V hj hl) h0
theorem SeqP.mono {α : Type} {F : Fence} {n : Nat} {P : Program} {g : Nat} {lb : Array Value} {encs : α → Array Value} {Kp : World → World → Prop} {Pr Pr' : List α → α → Prop} {S Sp : List α → Prop} {N : Nat} {w : World}
    (h : SeqP F n P g lb encs Kp Pr S Sp N w) (hp : ∀ pre x, Pr pre x → Pr' pre x) : SeqP F n P g lb encs Kp Pr' S Sp N w := fun l J Jx W hW hJ hJx hY h0 => h l J Jx W hW hJ hJx (fun pre x V hj hpr hl => hY pre x V hj (hp pre x hpr) hl) h0

section
variable {F : Fence} {n : Nat} {P : Program}
theorem wpIn_rangeP {α : Type} {g : Operand} {ps : Array Tmp} {assign body : Code} {Q : Exit → Act → World → Prop} {a : Act} {w : World}
    (hro : F.round = none) (h1 : 1 ≤ n) {gf : Nat} {lb : Array Value} (hg : a.eval g = .func (.func gf) #[] lb) (hFg : F.fn gf) (eg : ∀ args w, (callFunc gf args).run P w = .ok (.enter gf args) w)
    {encs : α → Array Value} {Kp : World → World → Prop} {S Sp : List α → Prop} {N : Nat} {w0 : World} {Pr : List α → α → Prop} (hseq : SeqP F (n - 1) P gf lb encs Kp Pr S Sp N w0)
    (hKt : ∀ {A B C : World}, Kp A B → Kp B C → Kp A C) (hKb : ∀ (W : World) (l : Nat) (o o' : Obj), w.heap.size ≤ l → W.heap[l]? = some o → o.isCells = false → o.isWalk = false → Kp W (W.putObj l o')) (hb0 : Below w0.heap.size w0 w) (hps : ∀ x, (encs x).size = ps.size)
    (I : List α → World → Prop) (Ix : Code → List α → World → Prop) (hI : OwnFrom w.heap.size I) (hIx : ∀ c, OwnFrom w.heap.size (Ix c)) (h0 : I [] w) (Ax : α → Act → World → Prop) (hAx : ∀ x a', OwnFrom w.heap.size (fun (_ : Unit) W => Ax x a' W))
    (hassign : ∀ (l : Nat) (pre : List α) (x : α) (W : World) (K : Act → World → Prop), I pre W → Pr pre x → pre.length < N → (∀ a' W', KeepsFrom w.heap.size W W' → Kp W W' → I pre W' → Ax x a' W' → K a' W') →
      assign.wpIn (F.inRound l) (n - 1 - 1) P (Exit.then K (fun _ _ _ => False)) { tmps := (ps.zip (encs x)).foldl (fun t (p, v) => t.setIfInBounds p v) a.tmps, defers := [] } W)
    (hbody : ∀ (l : Nat) (pre : List α) (x : α) (a' : Act) (W : World), w.heap.size ≤ l → (∃ r, W.heap[l]? = some (.loop r)) → I pre W → Ax x a' W → Pr pre x → pre.length < N → body.wpIn (F.inRound l) (n - 1 - 1) P (ownPostG w.heap.size Kp I Ix (pre ++ [x]) W) a' W)
    (hdone : ∀ (D : Nat) (xs : List α) (W : World), w.heap.size ≤ D → S xs → I xs W → W.heap[D]? = some (.deferred (some [])) → Q .normal { a with defers := { target := .collected D, args := #[] } :: a.defers } W)
    (hstop : ∀ (D : Nat) (c : Code) (pre : List α) (W : World), w.heap.size ≤ D → Sp pre → Ix c pre W → W.heap[D]? = some (.deferred (some [])) → c.wpIn F n P Q { a with defers := { target := .collected D, args := #[] } :: a.defers } W) :
    (Code.rangeFunc g ps assign body).wpIn F n P Q a w := by
  refine wpIn_rangeFunc ?_
  intro fn hfn
  rw [hro]
  obtain ⟨D, hD⟩ : ∃ D, w.heap.size = D := ⟨_, rfl⟩
  obtain ⟨rec, hrec⟩ : ∃ rec : LoopState → Option Code → Loop, rec = fun st pe => { state := st, pending := pe, fn, tmps := a.tmps, params := ps, assign, body, defers := D } := ⟨_, rfl⟩
  obtain ⟨V, hV⟩ : ∃ V, (w.alloc (.deferred (some []))).alloc (.loop (rec .ready none)) = V := ⟨_, rfl⟩
  have hVs : V.heap.size = D + 2 := by rw [← hV, World.size_alloc, World.size_alloc, hD]
  have two : Two2 D (rec .ready none) V := by
    have t1 := World.alloc_heap_new (w.alloc (.deferred (some []))) (.loop (rec .ready none))
    have t2 := World.alloc_heap_new w (.deferred (some []))
    rw [World.size_alloc, hD] at t1
    rw [hD] at t2
    rw [← hV]
    exact ⟨t1, (Below.heap_alloc _ _ _ (by rw [World.size_alloc]; omega)).trans t2⟩
  have hIV : I [] V := by rw [← hV]; exact hI.alloc _ (hI.alloc _ h0)
  have hbV : Below w0.heap.size w0 V := by
    rw [← hV]; exact hb0.trans ((((Below.refl _ w).alloc (Nat.le_refl _) _).alloc (by simp) _).mono hb0.size)
  have own : ∀ {A B : World} {row : Option Nat}, (∀ r, row = some r → V.heap.size ≤ r ∧ ∃ o : Obj, A.heap[r]? = some o ∧ o.isCells = false) → (∀ r, row = some r → w.heap.size ≤ r ∧ ∃ o : Obj, A.heap[r]? = some o ∧ o.isCells = false) := by
    intro A B row hr r e
    exact ⟨by have := (hr r e).1; omega, (hr r e).2⟩
  refine ⟨D + 1, [{ target := .collected D, args := #[] }], V, { target := .fn (.func gf) lb, args := #[.func (.yield (D + 1)) #[] #[]] }, V, gf,
    #[.func (.yield (D + 1)) #[] #[]] ++ lb, V, ?enter, ?lead, ?fenced, ?call, fun _ => h1, ?walk⟩
  case enter =>
    have := run_enterLoop_outer (P := P) (w := w) fn a.tmps ps assign body
    rw [← hV, hrec]
    simpa [hD] using this
  case lead =>
    simp only [resolve, hg]
    simp [go_sem]
  case fenced =>
    intro f' hf'
    simp [Target.leads] at hf'
    subst hf'
    exact hFg
  case call => simp [invoke, go_sem, eg]
  case walk =>
    refine (hseq (D + 1) (fun pre W => I pre W ∧ Two2 D (rec .ready none) W) (fun pre W => ∃ c, Ix c pre W ∧ Two2 D (rec .done (some c)) W) V hbV
      (fun s A B row hs hg' hr => ⟨hI s A B row hs.1 hg' (own (B := B) hr), hs.2.grown hg' (fun r e => by have := (hr r e).1; omega)⟩)
      (fun s A B row hs hg' hr => by
        obtain ⟨c, hc, ht⟩ := hs
        exact ⟨c, hIx c s A B row hc hg' (own (B := B) hr), ht.grown hg' (fun r e => by have := (hr r e).1; omega)⟩)
      ?round ⟨hIV, two⟩).mono ?behind
    case round =>
      rintro pre x W₀ ⟨hi₀, ht₀⟩ hpr hlen
      have hy := run_yield (P := P) (args := encs x) ht₀.1 (by rw [hrec]; exact hps x)
      rw [hrec] at hy
      refine ⟨fn, _, assign, body, hy, roundIn_of_wpIn hfn (hassign _ pre x W₀ _ hi₀ hpr hlen ?_)⟩
      clear hy
      intro a' W hka hkpa hi hax
      have ht := ht₀.kept (by omega) hka
      have hl := ht.1
      refine ⟨_, run_beginRound hl (by rw [hrec]), ?_⟩
      have ht2 := ht.put { rec .ready none with state := .busy }
      have hw2 : Kp W (W.putObj (D + 1) (.loop { rec .ready none with state := .busy })) := hKb _ _ _ _ (by omega) hl rfl rfl
      refine wpIn_mono (hbody _ pre x a' _ (by omega) ⟨_, ht2.1⟩ (hI.putObj _ hi (by omega) hl rfl) ((hAx x a').putObj (s := ()) _ hax (by omega) hl rfl) hpr hlen) ?_
      have fin : ∀ (jump : Option Code) (U : World), KeepsFrom w.heap.size (W.putObj (D + 1) (.loop { rec .ready none with state := .busy })) U →
          (Instr.endRound (D + 1) jump).run P U = .ok (.bool jump.isNone) (U.putObj (D + 1) (.loop (rec (if jump.isNone then .ready else .done) jump))) ∧ Two2 D { rec .ready none with state := .busy } U := fun jump U hk => by
        have htU := ht2.kept (by omega) hk
        have hr := run_endRound (P := P) jump htU.1
        refine ⟨?_, htU⟩
        rw [hrec] at hr ⊢
        exact hr
      have left : ∀ (c : Code) (U : World), KeepsFrom w.heap.size (W.putObj (D + 1) (.loop { rec .ready none with state := .busy })) U → Ix c (pre ++ [x]) U →
          ∃ v U', (Instr.endRound (D + 1) (some c)).run P U = .ok v U' ∧ v = .bool false ∧ (∃ c', Ix c' (pre ++ [x]) U' ∧ Two2 D (rec .done (some c')) U') ∧ KeepsFrom V.heap.size W₀ U' := fun c U hk hx => by
        obtain ⟨hr, htU⟩ := fin (some c) U hk
        rw [hD] at hk hka
        refine ⟨_, _, hr, rfl, ⟨c, (hIx c).putObj _ hx (by omega) htU.1 rfl, htU.put _⟩, ?_⟩
        rw [hVs]
        exact (KeepsFrom.trans (B := D + 2) ⟨hka.size, fun k o hB hk ho => hka.same k o (by omega) hk ho⟩ (keeps_round (r := rec .ready none) hk))
      rintro e a3 U hp
      cases e with
      | normal =>
        obtain ⟨hk, hkp, hi3⟩ := hp
        obtain ⟨hr, htU⟩ := fin none U hk
        rw [hD] at hk hka
        refine ⟨_, _, hr, .inl ⟨rfl, ⟨hI.putObj _ hi3 (by omega) htU.1 rfl, htU.put _⟩, hKt hkpa (hKt (hKt hw2 hkp) (hKb _ _ _ _ (by omega) htU.1 rfl rfl)), ?_⟩⟩
        rw [hVs]
        exact (KeepsFrom.trans (B := D + 2) ⟨hka.size, fun k o hB hk ho => hka.same k o (by omega) hk ho⟩ (keeps_round (r := rec .ready none) hk))
      | ret =>
        obtain ⟨v, U', hr, rfl, hc, hk⟩ := left .ret U hp.1 hp.2
        exact ⟨_, _, hr, .inr ⟨rfl, hc, hk⟩⟩
      | exit id =>
        obtain ⟨v, U', hr, rfl, hc, hk⟩ := left (.exit id) U hp.1 hp.2
        exact ⟨_, _, hr, .inr ⟨rfl, hc, hk⟩⟩
      | goto t =>
        obtain ⟨v, U', hr, rfl, hc, hk⟩ := left (.goto t) U hp.1 hp.2
        exact ⟨_, _, hr, .inr ⟨rfl, hc, hk⟩⟩
      | panic ch => exact hp.elim
      | outgrown => exact hp.elim
    case behind =>
      rintro e U ⟨⟨v, rfl⟩, (⟨xs, hS, hi, ht⟩ | ⟨pre, hSp, c, hi, ht⟩)⟩
      · have hr := run_endLoop (P := P) ht.1 (by rw [hrec]; simp)
        exact ⟨none, _, by rw [hrec] at hr; exact hr, hdone D xs _ (by omega) hS (hI.putObj _ hi (by omega) ht.1 rfl) ((World.putObj_heap_other (by omega)).trans ht.2)⟩
      · have hr := run_endLoop (P := P) ht.1 (by rw [hrec]; simp)
        exact ⟨some c, _, by rw [hrec] at hr; exact hr, hstop D c pre _ (by omega) hSp ((hIx c).putObj _ hi (by omega) ht.1 rfl) ((World.putObj_heap_other (by omega)).trans ht.2)⟩
end

/-- What a round over all cells knows. -/
def AllPr (Inv : S → Prop) (pre : List (Nat × C)) (x : Nat × C) : Prop := x.1 = pre.length ∧ (∃ s', Inv s' ∧ x.2 = s'.l.getD x.1 C.zero) ∧ AllIs Inv pre.length pre
/-- What a round over the attributes' places knows. -/
def AttPr (l : List C) (N : Nat) (pre : List Int) (x : Int) : Prop := ∃ k : Nat, x = k ∧ k < N ∧ ata l k = true ∧ pre = attsTo l k

set_option maxRecDepth 100000 in
set_option maxHeartbeats 4000000 in
theorem all_stopsP {Kp : World → World → Prop} {safe : World → Nat → Prop} {good : World → Prop} {w : World} {p b : Nat} {Inv : S → Prop} {s : S} {N : Nat} {R C' : Int} (hS : ServesI Kp safe good p b Inv) (h : PSp w p b s) (hs : Inv s)
    (hI : ∀ s', Inv s' → s'.ok ∧ s'.l.length = N ∧ s'.r = R ∧ s'.c = C') {B1 : Nat} (h1 : Blk w B1 [.pointer (some ⟨p, 0, none⟩)] 61) (hB : B1 ≠ p ∧ B1 ≠ b) (hg : good w) (hsf : safe w B1 ∧ safe w p ∧ safe w b) (n : Nat) (hn : 1 ≤ n) :
    SeqP Fence.wide n Try.prog 184 #[.pointer (some ⟨B1, 0, none⟩)] (fun x : Nat × C => #[Value.int .i64 x.1, x.2.v]) Kp (AllPr Inv) (AllIs Inv N) (fun pre => ∃ k, k ≤ N ∧ AllIs Inv k pre) N w := by
  intro l J Jx W hW hJ hJx hY h0
  have kW := Keep.of_below hW []
  have hp := h.keep kW (by simp) (by simp)
  have b1 := h1.call hW
  have hgW := hS.gkeep _ _ kW hg
  have hlp : p < w.heap.size ∧ b < w.heap.size := by obtain ⟨_, _, _, x1, x2⟩ := id h; exact ⟨x1.lt, x2.lt⟩
  have hsW : safe W B1 ∧ safe W p ∧ safe W b := ⟨hS.keep _ _ _ kW h1.lt hsf.1 hg, hS.keep _ _ _ kW hlp.1 hsf.2.1 hg, hS.keep _ _ _ kW hlp.2 hsf.2.2 hg⟩
  obtain ⟨ok, hN, hr, hc⟩ := hI s hs
  have hNb : N ≤ 3564 := by rw [← hN]; exact (ok.ix 0).2.2.1
  have hsz := size_calls hp
  have hce : ∀ V, Calls Try.prog 33 #[.agg #[.int .i64 s.r, .int .i64 s.c]] V fun e w' => e = .returned (.int .i64 (N : Int)) ∧ Below V.heap.size V w' := fun V => by
    have := c_cells s.r s.c V
    rw [show cel s.r s.c = (N : Int) by unfold cel; rw [if_pos ok.1, ← hN, ok.2.1]] at this
    exact this
  have c1 := b1.cell 0
  simp only [List.getElem?_cons_zero] at c1
  have k0 : Keep [] W W := Keep.refl _ _
  have HP := Aside0.mk hp
  have HB1 := Aside0.mk b1
  have HBN := Aside0.mk hB
  have hWs : W.heap.size ≤ W.heap.size := Nat.le_refl _
  have HJ := Aside0.mk (abides_own hJ)
  have HY := Aside0.mk hY
  have H0 := Aside0.mk h0
  have HS := Aside0.mk hS
  have HI := Aside0.mk hI
  have HSS := Aside0.mk hs
  have HG := Aside0.mk (And.intro hgW hsW)
  clear hS h h1 hB hg hsf kW hp b1 hgW hlp hsW ok hr hc hJ hJx hY h0 hs hW hI hN
  refine callsIn_of_wp Try.func184 rfl trivial ?_ rfl
  simp only [Try.ntmps184, List.size_toArray, List.length_cons, List.length_nil, Nat.reduceAdd, Nat.reduceSub, Array.replicate_succ, Array.replicate_zero, List.push_toArray, List.append_toArray, List.nil_append, List.cons_append]
  gi_wp2_with (first
    | (refine ⟨trivial, ?_⟩; gi_at_call 57; (with_reducible refine (callsIn_wide.2 hsz).mono ?_); rintro e w1 ⟨rfl, hb1⟩; have k1 := k0.call hb1)
    | (refine ⟨trivial, ?_⟩; gi_at_call 33; (with_reducible refine (callsIn_wide.2 (hce _)).mono ?_); rintro e w2 ⟨rfl, hb2⟩; have K2 := Aside0.mk (k1.call hb2)))
  clear hsz hce hb1 hb2 k1 k0 c1
  gi_loopw [7] (fun v7 wr => ∃ (i : Nat) (s' : S), v7 = .int .i64 i ∧ Aside0 (i ≤ N) ∧ Aside0 (PSp wr p b s' ∧ Inv s') ∧ Aside0 (Blk wr B1 [.pointer (some ⟨p, 0, none⟩)] 61) ∧ Aside0 (∃ pre, AllIs Inv i pre ∧ J pre wr) ∧ Aside0 (good wr ∧ safe wr B1 ∧ safe wr p ∧ safe wr b))
    (fun v7 wr => N - (intOf v7).toNat)
  case atStart =>
    have hl : p < W.heap.size ∧ b < W.heap.size := by obtain ⟨_, _, _, x1, x2⟩ := HP.out; exact ⟨x1.lt, x2.lt⟩
    refine ⟨0, s, rfl, ⟨Nat.zero_le _⟩, ⟨HP.out.keep K2.out (by simp) (by simp), HSS.out⟩, ⟨HB1.out.keep K2.out (by simp)⟩, ⟨[], AllIs.nil _, abides_keep HJ.out H0.out K2.out⟩, ?_⟩
    exact ⟨HS.out.gkeep _ _ K2.out HG.out.1, HS.out.keep _ _ _ K2.out HB1.out.lt HG.out.2.1 HG.out.1, HS.out.keep _ _ _ K2.out hl.1 HG.out.2.2.1 HG.out.1, HS.out.keep _ _ _ K2.out hl.2 HG.out.2.2.2 HG.out.1⟩
  case round =>
    obtain ⟨i, s', rfl, HI2, HP2, HB2, FJ, FS⟩ := hrel
    have hi := HI2.out
    have hi0 : (0 : Int) ≤ (i : Int) := by omega
    by_cases hc : (i : Int) < (N : Int)
    · have hcb : decide ((i : Int) < (N : Int)) = true := decide_eq_true hc
      have hiN : i < N := by omega
      obtain ⟨ok, hN, _⟩ := HI.out s' HP2.out.2
      have hat : ∀ V, Keep [] wr V → Calls Try.prog 58 #[.pointer (some ⟨p, 0, none⟩), .int .i64 i] V fun e w' => e = .returned (s'.l.getD i C.zero).v ∧ Below V.heap.size V w' := fun V k => by
        have := at_calls (HP2.out.1.keep k (by simp) (by simp)) ok (i : Int)
        rw [S.get_self ok (by omega)] at this; exact this
      obtain ⟨pre, hpre, hjp⟩ := FJ.out
      have hpre2 := hpre.snoc HP2.out.2
      have HPRE := Aside0.mk hpre2
      have hlen : pre.length < N := by rw [hpre.1]; exact hiN
      obtain ⟨c, hc'⟩ : ∃ c, s'.l.getD i C.zero = c := ⟨_, rfl⟩
      rw [hc'] at hat
      unfold C.v at hat
      have hyy : ∀ V, Keep [] wr V → YieldAt Fence.wide (n - 1) Try.prog l #[Value.int .i64 i, .agg #[.int .u8 c.ch, .bool c.at_, .int .u8 c.fa, .int .u8 c.hi, .int .u8 c.co, .int .u8 c.se]] V fun e W' => (e = .returned (.bool true) ∧ J (pre ++ [(i, c)]) W' ∧ Kp V W' ∧ KeepsFrom W.heap.size V W') ∨ (e = .returned (.bool false) ∧ Jx (pre ++ [(i, c)]) W' ∧ KeepsFrom W.heap.size V W') := fun V k => HY.out pre (i, c) V (abides_keep HJ.out hjp k) ⟨hpre.1.symm, ⟨s', HP2.out.2, hc'.symm⟩, by rw [hpre.1]; exact hpre⟩ hlen
      have HC := Aside0.mk hc'
      have HIN := Aside0.mk hiN
      have WE1 := Aside0.mk (up_one hiN (show (N : Int) ≤ 3564 by omega))
      have c1 := HB2.out.cell 0
      simp only [List.getElem?_cons_zero] at c1
      have K0 : Keep [] wr wr := Keep.refl _ _
      have hlr : p < wr.heap.size ∧ b < wr.heap.size := by obtain ⟨_, _, _, x1, x2⟩ := HP2.out.1; exact ⟨x1.lt, x2.lt⟩
      have HLR := Aside0.mk hlr
      clear ok hN hpre hpre2 hjp hlen hc' hiN hlr
      gi_wp2_with (first
        | (refine ⟨trivial, ?_⟩; gi_at_call 58; (with_reducible refine (callsIn_wide.2 (hat _ K0)).mono ?_); rintro e w5 ⟨rfl, hb5⟩
           have K5 := Aside0.mk (K0.call hb5)
           go_loud (obtain ⟨fn, tmps, assign, body, hy, hR⟩ := hyy _ (K0.call hb5))))
      clear hy hyy hat c1
      refine hR.mono ?_
      rintro e W3 (⟨rfl, hJ3, hk3, _⟩ | ⟨rfl, hJx3, _⟩)
      · have k5 := K5.out
        have q := FS.out
        have f1 := HS.out.keep _ _ _ k5 HB2.out.lt q.2.1 q.1
        have fp := HS.out.keep _ _ _ k5 HLR.out.1 q.2.2.1 q.1
        have fb := HS.out.keep _ _ _ k5 HLR.out.2 q.2.2.2 q.1
        have fg := HS.out.gkeep _ _ k5 q.1
        have G1 := HS.out.blk _ _ _ _ _ hk3 HBN.out.1 HBN.out.2 f1 (HB2.out.keep k5 (by simp))
        obtain ⟨s3, hs3, hi3⟩ := HS.out.sp _ _ _ hk3 fp fb (HP2.out.1.keep k5 (by simp) (by simp)) HP2.out.2
        have l5 : p < w5.heap.size ∧ b < w5.heap.size := by have := HLR.out; have := k5.size; omega
        have FS3 := Aside0.mk (show good W3 ∧ safe W3 B1 ∧ safe W3 p ∧ safe W3 b from ⟨HS.out.gkp _ _ hk3 fg, HS.out.kp _ _ _ hk3 (HB2.out.keep k5 (by simp)).lt f1, HS.out.kp _ _ _ hk3 l5.1 fp, HS.out.kp _ _ _ hk3 l5.2 fb⟩)
        have GG := Aside0.mk (And.intro G1 (And.intro hs3 hi3))
        have HJ3 := Aside0.mk hJ3
        clear k5 q f1 fp fb fg G1 hs3 hi3 l5 hJ3 hk3
        gi_wp2
        go_roundw
        case rel =>
          refine ⟨i + 1, s3, by first | rfl | rw [WE1.out] | (congr 1), ⟨HIN.out⟩, ⟨GG.out.2⟩, ⟨GG.out.1⟩, ⟨_, ?_, HJ3.out⟩, ⟨FS3.out⟩⟩
          have := HPRE.out
          rw [HC.out] at this
          exact this
        case measure => first | exact meas_up WE1.out HIN.out | exact meas_up (show ((i : Int) + 1) = ((i + 1 : Nat) : Int) by omega) HIN.out
      · gi_wp2
        refine bodyPost_ret (results_none rfl _ _ _) rfl ?_
        refine ⟨⟨_, rfl⟩, .inr ⟨pre ++ [(i, c)], ⟨i + 1, HIN.out, ?_⟩, hJx3⟩⟩
        have := HPRE.out
        rw [HC.out] at this
        exact this
    · have hcb : decide ((i : Int) < (N : Int)) = false := decide_eq_false hc
      have hiN : i = N := by omega
      have HE := Aside0.mk hiN
      clear hiN hi
      gi_wp2
      go_end0
      obtain ⟨pre, hpre, hjp⟩ := FJ.out
      rw [HE.out] at hpre
      refine ⟨⟨_, rfl⟩, .inl ⟨pre, hpre, ?_⟩⟩
      exact hjp


set_option maxRecDepth 100000 in
set_option maxHeartbeats 4000000 in
theorem attrs_stopsP {Kp : World → World → Prop} {safe : World → Nat → Prop} {good : World → Prop} {w : World} {p b : Nat} {Inv : S → Prop} {s : S} {N : Nat} {R C' : Int} (hS : ServesI Kp safe good p b Inv) (hL : Lets Kp good w.heap.size) (h : PSp w p b s) (hs : Inv s)
    (hI : ∀ s', Inv s' → s'.ok ∧ s'.l.length = N ∧ s'.r = R ∧ s'.c = C' ∧ ∀ n, ata s'.l n = ata s.l n) {B1 : Nat} (h1 : Blk w B1 [.pointer (some ⟨p, 0, none⟩)] 61) (hg : good w) (hsf : safe w p ∧ safe w b) (n : Nat) (hn : 4 ≤ n) :
    SeqP Fence.wide n Try.prog 183 #[.pointer (some ⟨B1, 0, none⟩)] (fun x : Int => #[Value.int .i64 x]) Kp (AttPr s.l N) (fun ys => ys = atts s.l) (fun pre => pre <+: atts s.l) N w := by
  intro l J Jx W hW hJ hJx hY h0
  have h1n : 1 ≤ n := by omega
  have h2n : 1 ≤ n - 1 := by omega
  have h3n : 1 ≤ n - 1 - 1 := by omega
  have kW := Keep.of_below hW []
  have hp := h.keep kW (by simp) (by simp)
  have b1 := h1.call hW
  have hgW := hS.gkeep _ _ kW hg
  have hlp : p < w.heap.size ∧ b < w.heap.size := by obtain ⟨_, _, _, x1, x2⟩ := id h; exact ⟨x1.lt, x2.lt⟩
  have hsW : safe W p ∧ safe W b := ⟨hS.keep _ _ _ kW hlp.1 hsf.1 hg, hS.keep _ _ _ kW hlp.2 hsf.2 hg⟩
  have hlW : p < W.heap.size ∧ b < W.heap.size := by have := kW.size; omega
  have hN : s.l.length = N := (hI s hs).2.1
  have HLW := Aside0.mk hlW
  have HP := Aside0.mk hp
  have HJ := Aside0.mk hJ
  have HJX := Aside0.mk hJx
  have HY := Aside0.mk hY
  have H0 := Aside0.mk h0
  have HS := Aside0.mk hS
  have HL := Aside0.mk (hL.up kW.size)
  have HI := Aside0.mk hI
  have HSS := Aside0.mk hs
  have HG := Aside0.mk (And.intro hgW hsW)
  have HN := Aside0.mk hN
  have c1 := (b1.alloc (.cells #[.func (.yield l) #[] #[]] 31)).cell 0
  simp only [List.getElem?_cons_zero] at c1
  have hit := all_calls (W.alloc (.cells #[.func (.yield l) #[] #[]] 31)) (some ⟨p, 0, none⟩)
  simp only [World.size_alloc] at hit
  clear hS hL h h1 hg hsf hlp kW hp b1 hgW hsW hJ hJx hY h0 hs hW hI hN hlW
  refine callsIn_of_wp_marks Try.func183 rfl trivial ?_ rfl
  simp only [Try.ntmps183, List.size_toArray, List.length_cons, List.length_nil, Nat.reduceAdd, Nat.reduceSub, Array.replicate_succ, Array.replicate_zero, List.push_toArray, List.append_toArray, List.nil_append, List.cons_append]
  gi_wp2_with (first
    | (refine ⟨trivial, ?_⟩; gi_at_call 162; (with_reducible refine (callsIn_wide.2 hit).mono ?_); rintro e w1 ⟨rfl, rfl⟩))
  have K0 := (Keep.refl [] W).alloc (.cells #[.func (.yield l) #[] #[]] 31)
  have a2 := Blk.new W [.func (.yield l) #[] #[]] 31
  have a3 := Blk.new (W.alloc (.cells #[.func (.yield l) #[] #[]] 31)) [.pointer (some ⟨p, 0, none⟩)] 61
  simp only [World.size_alloc] at a3
  have K1 := K0.alloc (.cells #[.pointer (some ⟨p, 0, none⟩)] 61)
  have x2 := a2.alloc (.cells #[.pointer (some ⟨p, 0, none⟩)] 61)
  have hsz : ((W.alloc (.cells #[.func (.yield l) #[] #[]] 31)).alloc (.cells #[.pointer (some ⟨p, 0, none⟩)] 61)).heap.size = W.heap.size + 2 := by simp only [World.size_alloc]
  have sx : safe (W.alloc (.cells #[.func (.yield l) #[] #[]] 31)) W.heap.size := HS.out.fresh _ _ HG.out.1
  have g1 := HS.out.gkeep _ _ K0 HG.out.1
  have sx2 := HS.out.keep _ _ _ ((Keep.refl [] (W.alloc (.cells #[.func (.yield l) #[] #[]] 31))).alloc (.cells #[.pointer (some ⟨p, 0, none⟩)] 61)) (by rw [World.size_alloc]; omega) sx g1
  have sb := HS.out.fresh (W.alloc (.cells #[.func (.yield l) #[] #[]] 31)) (.cells #[.pointer (some ⟨p, 0, none⟩)] 61) g1
  simp only [World.size_alloc] at sb
  generalize (W.alloc (.cells #[.func (.yield l) #[] #[]] 31)).alloc (.cells #[.pointer (some ⟨p, 0, none⟩)] 61) = V0 at *
  have gV := HS.out.gkeep _ _ K1 HG.out.1
  have spV := HS.out.keep _ _ _ K1 HLW.out.1 HG.out.2.1 HG.out.1
  have sbV := HS.out.keep _ _ _ K1 HLW.out.2 HG.out.2.2 HG.out.1
  have hbx : W.heap.size ≠ p ∧ W.heap.size ≠ b := by have := HLW.out; omega
  have hba : W.heap.size + 1 ≠ p ∧ W.heap.size + 1 ≠ b := by have := HLW.out; omega
  have hst := all_stopsP HS.out (HP.out.keep K1 (by simp) (by simp)) HSS.out (fun s' hs' => ⟨(HI.out s' hs').1, (HI.out s' hs').2.1, (HI.out s' hs').2.2.1, (HI.out s' hs').2.2.2.1⟩) a3 hba gV ⟨sb, spV, sbV⟩ (n - 1) (by omega)
  clear K0 a2 sx g1 sb c1
  refine wpIn_rangeP (F := Fence.wide) (n := n) rfl (by omega) (gf := 184) (lb := #[.pointer (some ⟨W.heap.size + 1, 0, none⟩)]) rfl trivial (enters_of Try.func184 (by kernel_rfl) rfl)
    hst HL.out.trans (fun V lv o o' hl ho hc hw => HL.out.put V lv o o' (by omega) ho hc) (Below.refl _ _) (fun _ => rfl)
    (fun pre V => J (atOf pre) V ∧ good V ∧ safe V W.heap.size ∧ Blk V W.heap.size [.func (.yield l) #[] #[]] 31) (fun c pre V => c = .ret ∧ Jx (atOf pre) V)
    ?own ?ownx ⟨?start, gV, sx2, x2⟩
    (fun x a' V => ∃ Bc, Blk V Bc x.2.vs 60 ∧ a' = { tmps := #[.func (.yield l) #[] #[], .pointer (some ⟨B1, 0, none⟩), .pointer (some ⟨W.heap.size, 0, none⟩), .int .i64 (x.1 : Int), .pointer (some ⟨Bc, 0, none⟩), .pointer (some ⟨p, 0, none⟩), .func (.func 184) #[] #[.pointer (some ⟨W.heap.size + 1, 0, none⟩)], .int .i64 (x.1 : Int), x.2.v, undef, undef, undef, undef, undef, undef, undef, undef], defers := [] }) ?ax ?assign ?body ?done ?stop
  case own =>
    refine OwnFrom.and ?_ (good_own HS.out.toSafe (HL.out.up (by omega)))
    exact fun s A B row hs hg hr => HJ.out _ A B row hs hg (fun r e => ⟨by have := (hr r e).1; omega, (hr r e).2⟩)
  case ownx =>
    exact fun c => OwnFrom.and (fun _ _ _ _ h _ _ => h) (fun s A B row hs hg hr => HJX.out _ A B row hs hg (fun r e => ⟨by have := (hr r e).1; omega, (hr r e).2⟩))
  case start => exact abides_keep (abides_own HJ.out) H0.out K1
  case ax =>
    rintro x a' u A B row ⟨Bc, hb, he⟩ hg hr
    exact ⟨Bc, ownFrom_blk (f := fun _ : Unit => x.2.vs) () A B row hb hg hr, he⟩
  case assign =>
    rintro lr pre x V K ⟨hj, hgd, hsx, hbx2⟩ _ _ hK
    have kk : Keep [] V (V.alloc (.cells #[.int .u8 x.2.ch, .bool x.2.at_, .int .u8 x.2.fa, .int .u8 x.2.hi, .int .u8 x.2.co, .int .u8 x.2.se] 60)) := (Keep.refl [] V).alloc _
    have hK2 := hK _ (V.alloc (.cells #[.int .u8 x.2.ch, .bool x.2.at_, .int .u8 x.2.fa, .int .u8 x.2.hi, .int .u8 x.2.co, .int .u8 x.2.se] 60)) (kk.keepsFrom _ (by simp)) (HL.out.keep kk hgd)
      ⟨abides_keep (abides_own HJ.out) hj kk, HS.out.gkeep _ _ kk hgd, HS.out.keep _ _ _ kk hbx2.lt hsx hgd, hbx2.keep kk (by simp)⟩ ⟨_, Blk.new V x.2.vs 60, rfl⟩
    have HK := Aside0.mk hK2
    clear hK hK2 hj hgd hsx hbx2 kk hst
    gi_wp2
    exact HK.out
  case body =>
    rintro lr pre x a' V hlr hrec ⟨hj, hgd, hsx, hbx2⟩ ⟨Bc, hbc, rfl⟩ hpr hlen
    obtain ⟨i, c⟩ := x
    obtain ⟨hp1, ⟨s9, hs9, hp2⟩, hp3⟩ := hpr
    simp only at hp1 hp2
    have hat9 : c.at_ = true → AttPr s.l N (atOf pre) (i : Int) := fun h => ⟨i, rfl, by omega, by rw [← (HI.out s9 hs9).2.2.2.2 i]; unfold ata; rw [← hp2]; exact h, by rw [hp3.atts (fun s' hs' => (HI.out s' hs').2.2.2.2), hp1]⟩
    clear hp1 hp2 hp3
    have cc := hbc.cell 1
    have cx := hbx2.cell 0
    simp only [List.getElem?_cons_zero, List.getElem?_cons_succ] at cc cx
    have hl2 : (atOf pre).length < N := Nat.lt_of_le_of_lt (atOf_le pre) hlen
    obtain ⟨q, hq⟩ : ∃ q, c.at_ = q := ⟨_, rfl⟩
    have hsn := atOf_snoc pre (i, c)
    simp only [hq] at hsn
    rw [hq] at cc hat9
    have HA9 := Aside0.mk hat9
    clear hat9
    have hKV : Kp V V := HL.out.keep (Keep.refl [] V) hgd
    have HV := Aside0.mk (And.intro hj (And.intro hgd (And.intro hsx (And.intro hbx2 hKV))))
    have HSN := Aside0.mk hsn
    clear hj hgd hsx hbx2 hKV hst hsn hbc hlen hrec
    cases q
    · clear hl2
      gi_wp2
      all_goals (refine ⟨fun _ _ => trivial, ?_⟩)
      all_goals gi_wp2
      all_goals refine ⟨KeepsFrom.refl _ _, HV.out.2.2.2.2, ?_, HV.out.2.1, HV.out.2.2.1, HV.out.2.2.2.1⟩
      all_goals rw [HSN.out]
      all_goals simp only [Bool.false_eq_true, if_false, List.append_nil]
      all_goals exact HV.out.1
    · obtain ⟨fn, tmps, assign, body, hy, hR⟩ := yield_wide (m := n - 1 - 1 - 1) (l' := lr) (HY.out (atOf pre) (i : Int) V HV.out.1 (HA9.out rfl) hl2)
      clear hl2
      gi_wp2
      clear hy
      refine hR.mono ?_
      rintro e V3 (⟨rfl, hJ3, hk3, hkf⟩ | ⟨rfl, hJx3, hkf⟩)
      · gi_wp2
        have q := HV.out
        refine ⟨⟨hkf.size, fun k o hB hk ho => hkf.same k o (by omega) hk ho⟩, hk3, ?_, HS.out.gkp _ _ hk3 q.2.1, HS.out.kp _ _ _ hk3 q.2.2.2.1.lt q.2.2.1, HS.out.blk _ _ _ _ _ hk3 hbx.1 hbx.2 q.2.2.1 q.2.2.2.1⟩
        rw [HSN.out]
        exact hJ3
      · gi_wp2
        refine ⟨⟨hkf.size, fun k o hB hk ho => hkf.same k o (by omega) hk ho⟩, rfl, ?_⟩
        rw [HSN.out]
        exact hJx3
  case done =>
    rintro D ys V hD hys ⟨hj, _⟩ hKD
    have e := hys.atts (fun s' hs' => (HI.out s' hs').2.2.2.2)
    have hj2 := HJ.out.putObj (.deferred none) hj (by omega) hKD rfl
    rw [e] at hj2
    gi_wp2
    refine ⟨by simp, .inl ⟨_, _, rfl, run_takeDeferred hKD, ?_⟩⟩
    refine ⟨_, results_none rfl _ _ _, ⟨_, rfl⟩, .inl ⟨_, ?_, hj2⟩⟩
    unfold atts; rw [HN.out]
  case stop =>
    rintro D c pre V hD ⟨k, hkN, hpre⟩ ⟨rfl, hj⟩ hKD
    have e := hpre.atts (fun s' hs' => (HI.out s' hs').2.2.2.2)
    have hj2 := HJX.out.putObj (.deferred none) hj (by omega) hKD rfl
    rw [e] at hj2
    gi_wp2
    refine ⟨by simp, .inl ⟨_, _, rfl, run_takeDeferred hKD, ?_⟩⟩
    refine ⟨_, results_none rfl _ _ _, ⟨_, rfl⟩, .inr ⟨_, ?_, hj2⟩⟩
    unfold atts; rw [HN.out]; exact attsTo_prefix _ hkN



end Go.Proofs.Ytangandfgbnomaa.V
