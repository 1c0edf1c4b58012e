/- Ranges over functions: what a round keeps; the contract of a field's places. -/
import Derived.Test.YtangandfgbnomaaVZ4
import Derived.RangeFuncNested
import Derived.RangeFuncBound
import Derived.RangeFuncCalls
import Derived.RangeFuncLeaves
import Derived.RangeFuncBox
import Derived.Shelf.Abstract
import Derived.Shelf.RegionOpen
import Derived.WalkKit
import Derived.OwnWalkIn
import Derived.TacticsInMore
import Derived.LoopNIn
import Derived.LoopIn
namespace Go.Proofs.Ytangandfgbnomaa.V
open Go.RowKit Go.Shelf
set_option linter.unusedVariables false
set_option linter.unusedSimpArgs false

attribute [local go_sem] Oper.semAt_some

/-- What a round may have written of cells: the blocks in R, and new ones. -/
structure KC (R : List Nat) (w w' : World) : Prop where
  size : w.heap.size ≤ w'.heap.size
  block : ∀ k o, k ∉ R → w.heap[k]? = some o → o.isCells = true → w'.heap[k]? = some o
theorem KC.refl (R : List Nat) (w : World) : KC R w w := ⟨Nat.le_refl _, fun _ _ _ h _ => h⟩
theorem KC.trans {R : List Nat} {a b c : World} (h : KC R a b) (k : KC R b c) : KC R a c := ⟨Nat.le_trans h.size k.size, fun i o hi ho hc => k.block i o hi (h.block i o hi ho hc) hc⟩
theorem Keep.kc {R : List Nat} {a b : World} (h : Keep R a b) : KC R a b := ⟨h.size, fun k o hk ho _ => h.heap ho hk⟩
theorem KC.blk {R : List Nat} {w w' : World} {b : Nat} {cs : List Value} {t : TypeId} (k : KC R w w') (h : Blk w b cs t) (hb : b ∉ R) : Blk w' b cs t := k.block b _ hb h rfl
theorem KC.psp {R : List Nat} {w w' : World} {p b : Nat} {s : S} (k : KC R w w') (h : PSp w p b s) (hp : p ∉ R) (hb : b ∉ R) : PSp w' p b s := by
  obtain ⟨cap, ex, h0, h1, h2⟩ := h; exact ⟨cap, ex, h0, k.blk h1 hp, k.blk h2 hb⟩
theorem KC.put {R : List Nat} {W : World} {l : Nat} {o o' : Obj} (h : W.heap[l]? = some o) (ho : o.isCells = false) : KC R W (W.putObj l o') :=
  ⟨by simp, fun k x _ hx hc => by
    by_cases e : k = l
    · subst e; rw [h] at hx; cases hx; rw [ho] at hc; cases hc
    · rw [World.putObj_heap_other e]; exact hx⟩
theorem kc_b {R : List Nat} {w : World} (W : World) (l : Nat) (o o' : Obj) (_ : w.heap.size ≤ l) (h : W.heap[l]? = some o) (ho : o.isCells = false) (_ : o.isWalk = false) : KC R W (W.putObj l o') := KC.put h ho
theorem Keep.keepsFrom {R : List Nat} {W W' : World} (B : Nat) (h : Keep R W W') (hc : ∀ r ∈ R, ∃ o, W.heap[r]? = some o ∧ o.isCells = true) : KeepsFrom B W W' :=
  ⟨h.size, fun k o _ hk ho => h.heap hk (fun hr => by obtain ⟨x, hx, hxc⟩ := hc k hr; rw [hk] at hx; cases hx; rw [ho] at hxc; cases hxc)⟩
theorem ownFrom_keep {β : Type} {R : List Nat} {w0 : World} {B : Nat} (hB : w0.heap.size ≤ B) : OwnFrom B (fun (_ : β) W => Keep R w0 W) :=
  fun _ X Y row hs hg hr => ⟨hg.os.trans hs.os, hg.tape.trans hs.tape, hg.output.trans hs.output, Nat.le_trans hs.size hg.size, fun k hk hn =>
    (hg.block k (Nat.lt_of_lt_of_le hk hs.size) (fun e => by have := (hr k e.symm).1; omega)).trans (hs.block k hk hn)⟩
theorem ownFrom_blk {β : Type} {B0 B : Nat} {f : β → List Value} {t : TypeId} : OwnFrom B0 (fun (x : β) W => Blk W B (f x) t) := by
  intro x X Y row hs hg hr
  refine (hg.block B hs.lt (fun e => ?_)).trans hs
  obtain ⟨_, o, ho, hc⟩ := hr B e.symm
  rw [show X.heap[B]? = _ from hs] at ho
  cases ho; cases hc
theorem Keep.putObj {R : List Nat} {w0 W : World} {l : Nat} {o : Obj} (h : Keep R w0 W) (hl : w0.heap.size ≤ l) : Keep R w0 (W.putObj l o) :=
  ⟨h.os, h.tape, h.output, by simpa using h.size, fun k hk hn => (World.putObj_heap_other (by omega)).trans (h.block k hk hn)⟩
theorem Blk.putObj {W : World} {b l : Nat} {cs : List Value} {t : TypeId} {o o' : Obj} (h : Blk W b cs t) (hl : W.heap[l]? = some o) (ho : o.isCells = false) : Blk (W.putObj l o') b cs t :=
  (KC.put (R := []) hl ho).blk h (by simp)

/-- A space that has the same size, and attributes at the same places. -/
def Like (s s' : S) : Prop := s'.r = s.r ∧ s'.c = s.c ∧ s'.l.length = s.l.length ∧ ∀ n, ata s'.l n = ata s.l n
theorem Like.refl (s : S) : Like s s := ⟨rfl, rfl, rfl, fun _ => rfl⟩
/-- What an iterator asks of a round: 'safe W X': block X is none that a round writes; 'good W': whatever else must hold for new blocks to be safe. -/
structure Safe (Kp : World → World → Prop) (safe : World → Nat → Prop) (good : World → Prop) : Prop where
  fresh : ∀ W o, good W → safe (W.alloc o) W.heap.size
  keep : ∀ W W' X, Keep [] W W' → X < W.heap.size → safe W X → good W → safe W' X
  kp : ∀ W W' X, Kp W W' → X < W.heap.size → safe W X → safe W' X
  gkeep : ∀ W W', Keep [] W W' → good W → good W'
  gkp : ∀ W W', Kp W W' → good W → good W'
/-- .. an iterator over a space at p, b. -/
structure Serves (Kp : World → World → Prop) (safe : World → Nat → Prop) (good : World → Prop) (p b : Nat) (s : S) : Prop extends Safe Kp safe good where
  blk : ∀ W W' X cs t, Kp W W' → X ≠ p → X ≠ b → safe W X → Blk W X cs t → Blk W' X cs t
  sp : ∀ W W' s', Kp W W' → safe W p → safe W b → PSp W p b s' → s'.ok → Like s s' → ∃ s'', PSp W' p b s'' ∧ s''.ok ∧ Like s s''
/-- .. an iterator that reads safe blocks alone. -/
structure Holds (Kp : World → World → Prop) (safe : World → Nat → Prop) (good : World → Prop) : Prop extends Safe Kp safe good where
  blk : ∀ W W' X cs t, Kp W W' → safe W X → Blk W X cs t → Blk W' X cs t
theorem Holds.psp {Kp : World → World → Prop} {safe : World → Nat → Prop} {good : World → Prop} (h : Holds Kp safe good) {W W' : World} {p b : Nat} {s : S} (k : Kp W W') (hp : safe W p) (hb : safe W b) (hs : PSp W p b s) : PSp W' p b s := by
  obtain ⟨cap, ex, h0, h1, h2⟩ := hs; exact ⟨cap, ex, h0, h.blk _ _ _ _ _ k hp h1, h.blk _ _ _ _ _ k hb h2⟩
theorem Holds.serves {Kp : World → World → Prop} {safe : World → Nat → Prop} {good : World → Prop} (h : Holds Kp safe good) (p b : Nat) (s : S) : Serves Kp safe good p b s where
  toSafe := h.toSafe
  blk _ _ _ _ _ k _ _ hs hB := h.blk _ _ _ _ _ k hs hB
  sp _ _ s' k hp hb hs ok hl := ⟨s', h.psp k hp hb hs, ok, hl⟩
/-- A round that writes the blocks in R alone. -/
theorem holds_kc {R : List Nat} (n0 : Nat) (hR : ∀ r ∈ R, r < n0) : Holds (KC R) (fun _ X => X ∉ R) (fun W => n0 ≤ W.heap.size) where
  fresh W o h := fun hr => by have := hR _ hr; omega
  keep _ _ _ _ _ h _ := h
  kp _ _ _ _ _ h := h
  gkeep _ _ k h := Nat.le_trans h k.size
  gkp _ _ k h := Nat.le_trans h k.size
  blk _ _ _ _ _ k h hB := k.blk hB h
theorem serves_kc {R : List Nat} {p b : Nat} (s : S) (n0 : Nat) (hR : ∀ r ∈ R, r < n0) : Serves (KC R) (fun _ X => X ∉ R) (fun W => n0 ≤ W.heap.size) p b s := (holds_kc n0 hR).serves p b s

/-- Block k is the row of the slice that lies in B's box. -/
def owned (B : Nat) (W : World) (k : Nat) : Prop := ∃ n c, W.cell? ⟨B, 0, none⟩ = some (.slice (some ⟨k, 0, none⟩) n c)
/-- A round that appends to the slice that lies in B's box. -/
structure KO (B : Nat) (W W' : World) : Prop where
  size : W.heap.size ≤ W'.heap.size
  block : ∀ k o, k ≠ B → ¬ owned B W k → W.heap[k]? = some o → o.isCells = true → W'.heap[k]? = some o
  row : ∀ k, owned B W' k → owned B W k ∨ (W.heap.size ≤ k ∧ k < W'.heap.size)
theorem KO.refl (B : Nat) (W : World) : KO B W W := ⟨Nat.le_refl _, fun _ _ _ _ h _ => h, fun _ h => .inl h⟩
theorem KO.trans {B : Nat} {a b c : World} (h : KO B a b) (k : KO B b c) : KO B a c :=
  ⟨Nat.le_trans h.size k.size, fun i o hi hn ho hc => k.block i o hi (fun hb => by
      rcases h.row i hb with h1 | h1
      · exact hn h1
      · have := (Array.getElem?_eq_some_iff.1 ho).1; omega) (h.block i o hi hn ho hc) hc,
   fun i hi => by
      rcases k.row i hi with h1 | h1
      · rcases h.row i h1 with h2 | h2
        · exact .inl h2
        · exact .inr ⟨h2.1, Nat.lt_of_lt_of_le h2.2 k.size⟩
      · exact .inr ⟨Nat.le_trans h.size h1.1, h1.2⟩⟩
theorem cell_put {W : World} {l B : Nat} {o' : Obj} (h : B ≠ l) (j : Nat) : (W.putObj l o').cell? ⟨B, j, none⟩ = W.cell? ⟨B, j, none⟩ :=
  World.cell?_of_block (a := ⟨B, j, none⟩) (World.putObj_heap_other h)
theorem KO.put {B : Nat} {W : World} {l : Nat} {o o' : Obj} (hB : B ≠ l) (h : W.heap[l]? = some o) (ho : o.isCells = false) : KO B W (W.putObj l o') :=
  ⟨by simp, fun k x _ _ hx hc => by
    by_cases e : k = l
    · subst e; rw [h] at hx; cases hx; rw [ho] at hc; cases hc
    · rw [World.putObj_heap_other e]; exact hx,
   fun k hk => .inl (by unfold owned at hk ⊢; rw [cell_put hB] at hk; exact hk)⟩
theorem owned_keep {B : Nat} {W W' : World} (k : Keep [] W W') (hB : B < W.heap.size) (x : Nat) : owned B W' x ↔ owned B W x := by
  unfold owned
  rw [World.cell?_of_block (a := ⟨B, 0, none⟩) (k.block B hB (by simp))]
theorem holds_ko (B : Nat) : Holds (KO B) (fun W X => X ≠ B ∧ ¬ owned B W X) (fun W => B < W.heap.size ∧ ∀ k, owned B W k → k < W.heap.size) where
  fresh W o h := ⟨fun e => by have := h.1; omega, fun hk => by
    have := h.2 _ ((owned_keep ((Keep.refl [] W).alloc o) h.1 _).1 hk); omega⟩
  keep W W' X k hX h hg := ⟨h.1, fun hk => h.2 ((owned_keep k hg.1 _).1 hk)⟩
  kp W W' X k hX h := ⟨h.1, fun hk => by
    rcases k.row X hk with h1 | h1
    · exact h.2 h1
    · omega⟩
  gkeep W W' k h := ⟨Nat.lt_of_lt_of_le h.1 k.size, fun x hx => Nat.lt_of_lt_of_le (h.2 x ((owned_keep k h.1 x).1 hx)) k.size⟩
  gkp W W' k h := ⟨Nat.lt_of_lt_of_le h.1 k.size, fun x hx => by
    rcases k.row x hx with h1 | h1
    · exact Nat.lt_of_lt_of_le (h.2 x h1) k.size
    · exact h1.2⟩
  blk _ _ _ _ _ k h hB := k.block _ _ h.1 h.2 hB rfl
theorem setCell_id {w : World} {B : Nat} {cs : List Value} {t : TypeId} (h : Blk w B cs t) (j : Nat) (v : Value) (hv : cs[j]? = some v) : w.setCell ⟨B, j, none⟩ v = w := by
  have e : cs.set j v = cs := by
    obtain ⟨hlt, hk⟩ := List.getElem?_eq_some_iff.1 hv
    rw [← hk]; exact List.set_getElem_self hlt
  have hh : (w.setCell ⟨B, j, none⟩ v).heap = w.heap := by
    apply Array.ext
    · simp [World.setCell]
    · intro i h1 h2
      by_cases ei : i = B
      · subst ei
        have h3 : (w.setCell ⟨i, j, none⟩ v).heap[i]? = some (.cells (cs.set j v).toArray t (0, 0)) := h.set j v
        have h4 : w.heap[i]? = some (.cells cs.toArray t (0, 0)) := h
        rw [e, ← h4, Array.getElem?_eq_getElem h1, Array.getElem?_eq_getElem h2] at h3
        exact Option.some.inj h3
      · have h3 := Below.heap_setCell w ⟨B, j, none⟩ v i ei
        rw [Array.getElem?_eq_getElem h1, Array.getElem?_eq_getElem h2] at h3
        exact Option.some.inj h3
  show ({ w with heap := (w.setCell ⟨B, j, none⟩ v).heap } : World) = w
  rw [hh]

theorem abides_keep {β : Type} {B : Nat} {J : β → World → Prop} (hJ : AbidesFrom B J) {x : β} {W W' : World} (h : J x W) (k : Keep [] W W') : J x W' :=
  hJ x W W' none h ⟨k.os, k.tape, k.output, k.size, fun i hi _ => k.block i hi (by simp)⟩ (fun r e => by cases e)

/-- What has come of a row. -/
theorem plcTo_prefix (l : List C) (a : Nat) {k n : Nat} (h : k ≤ n) : plcTo l a k <+: plcTo l a n := by
  unfold plcTo
  refine List.IsPrefix.map _ ?_
  exact ⟨(List.range (n - k)).map (k + ·), by rw [← List.range_add]; congr 1; omega⟩
theorem meas {N a k u : Nat} (ha : a < N) (hk : k < N) (hu : (a + 1 + k) % N = u) : (u + N - a - 1) % N = k := by
  rcases Nat.lt_or_ge (a + 1 + k) N with h | h
  · rw [Nat.mod_eq_of_lt h] at hu
    rw [show u + N - a - 1 = k + N by omega, Nat.add_mod_right, Nat.mod_eq_of_lt hk]
  · rw [Nat.mod_eq_sub_mod h, Nat.mod_eq_of_lt (by omega)] at hu
    rw [show u + N - a - 1 = k by omega, Nat.mod_eq_of_lt hk]
theorem wrp_nat {s : S} (ok : s.ok) (n : Nat) : wrp s.r s.c (n : Int) = (n % s.l.length : Nat) := by
  obtain ⟨hv, hl, _⟩ := ok
  unfold wrp
  rw [if_pos hv, ← hl, ← Int.natCast_emod]

set_option maxRecDepth 100000 in
set_option maxHeartbeats 2000000 in
/-- The places of a field, told by the program: wherever they are told from is a place. -/
theorem plc_stops {Kp : World → World → Prop} {safe : World → Nat → Prop} {good : World → Prop} {w : World} {p b : Nat} {s : S} (hS : Serves Kp safe good p b s) (h : PSp w p b s) (ok : s.ok) {a : Nat} (ha : a < s.l.length) {B1 B2 : Nat}
    (h1 : Blk w B1 [.pointer (some ⟨p, 0, none⟩)] 61) (h2 : Blk w B2 [.int .i64 a] 3) (hB : B1 ≠ p ∧ B1 ≠ b) (hg : good w) (hsf : safe w B1 ∧ safe w p ∧ safe w b) (n : Nat) (hn : 1 ≤ n) :
    SeqStopsK Fence.wide n Try.prog 164 #[.pointer (some ⟨B1, 0, none⟩), .pointer (some ⟨B2, 0, none⟩)] (fun x : Int => #[Value.int .i64 x]) Kp (fun ys => ys = rpl s.l a) (fun pre => pre <+: rpl s.l a) (rpl s.l a).length w := by
  intro l J Jx W hW hJ hJx hY h0
  have hs := h.keep (Keep.of_below hW []) (by simp) (by simp)
  have b1 := h1.call hW
  have b2 := h2.call hW
  have hgW := hS.gkeep _ _ (Keep.of_below hW []) hg
  have hlp : p < w.heap.size ∧ b < w.heap.size := by obtain ⟨_, _, _, x1, x2⟩ := id h; exact ⟨x1.lt, x2.lt⟩
  have hsW : safe W B1 ∧ safe W p ∧ safe W b := ⟨hS.keep _ _ _ (Keep.of_below hW []) h1.lt hsf.1 hg, hS.keep _ _ _ (Keep.of_below hW []) hlp.1 hsf.2.1 hg, hS.keep _ _ _ (Keep.of_below hW []) hlp.2 hsf.2.2 hg⟩
  have hlW : p < W.heap.size ∧ b < W.heap.size := by have := hW.size; omega
  have HGW := Aside0.mk (And.intro hgW (And.intro hsW hlW))
  clear hg hsf hgW hlp hsW hlW
  obtain ⟨_, _, hN, hN1⟩ := ok.ix 0
  have hsz := size_calls hs
  have hself : wrp s.r s.c (a : Int) = a := by rw [wrp_nat ok, Nat.mod_eq_of_lt ha]
  have hwc : ∀ V, Calls Try.prog 32 #[.agg #[.int .i64 s.r, .int .i64 s.c], .int .i64 a] V fun e w' => e = .returned (.int .i64 a) ∧ Below V.heap.size V w' := fun V => by have := c_wrap s.r s.c a V; rw [hself] at this; exact this
  have hat : ∀ V, Keep [] W V → Calls Try.prog 58 #[.pointer (some ⟨p, 0, none⟩), .int .i64 a] V fun e w' => e = .returned (s.l.getD a C.zero).v ∧ Below V.heap.size V w' := fun V k => by
    have := at_calls (hs.keep k (by simp) (by simp)) ok (a : Int)
    rw [S.get_self ok ha] at this; exact this
  obtain ⟨c, hc⟩ : ∃ c, s.l.getD a C.zero = c := ⟨_, rfl⟩
  rw [hc] at hat
  have f60 : ∀ w, Sem.run Try.prog (Instr.field 60 (.agg #[.int .u8 c.ch, .bool c.at_, .int .u8 c.fa, .int .u8 c.hi, .int .u8 c.co, .int .u8 c.se]) 1) w = .ok (.bool c.at_) w := fun _ => by kernel_rfl
  unfold C.v at hat
  obtain ⟨q, hq⟩ : ∃ q, c.at_ = q := ⟨_, rfl⟩
  rw [hq] at hat f60
  have hta : ata s.l a = q := by unfold ata; rw [hc, hq]
  have k0 : Keep [] W W := Keep.refl _ _
  have e1 := b1.cell 0
  have e2 := b2.cell 0
  simp only [List.getElem?_cons_zero] at e1 e2
  have HB1 := Aside0.mk b1
  have HB2 := Aside0.mk b2
  have HJ := Aside0.mk hJ
  have HY := Aside0.mk hY
  have H0 := Aside0.mk h0
  have HS := Aside0.mk hS
  have hS2 := HS
  have HT := Aside0.mk hta
  clear hS h h1 h2 b1 b2 hJ hJx hY h0 hq hc hself hta
  cases q
  · refine callsIn_of_wp Try.func164 rfl trivial ?_ rfl
    simp only [Try.ntmps164, List.size_toArray, List.length_cons, List.length_nil, Nat.reduceAdd, Nat.reduceSub, Array.replicate_succ, Array.replicate_zero, List.push_toArray, List.append_toArray, List.nil_append, List.cons_append]
    gi_wp2_with (first
    | (refine ⟨trivial, ?_⟩; gi_at_call 57; (with_reducible refine (callsIn_wide.2 hsz).mono ?_); rintro e w1 ⟨rfl, hb1⟩; have k1 := k0.call hb1
       have KA1 := Aside0.mk k1
       have A1 := Aside0.mk ((HB1.out.call hb1).alloc (.cells #[.int .i64 s.r, .int .i64 s.c] 24))
       have A2 := Aside0.mk ((HB2.out.call hb1).alloc (.cells #[.int .i64 s.r, .int .i64 s.c] 24))
       have A4 := Aside0.mk (Blk.new w1 [.int .i64 s.r, .int .i64 s.c] 24)
       have g2 := A2.out.cell 0
       simp only [List.getElem?_cons_zero] at g2)
    | (refine ⟨trivial, ?_⟩; gi_at_call 32; (with_reducible refine (callsIn_wide.2 (hwc _)).mono ?_); rintro e w2 ⟨rfl, hb2⟩
       have C1 := Aside0.mk (A1.out.call hb2)
       have KA2 := Aside0.mk (Keep.of_below hb2 [])
       have C2 := Aside0.mk (A2.out.call hb2)
       have C4 := Aside0.mk (A4.out.call hb2)
       have K2 := Aside0.mk ((k1.alloc (.cells #[.int .i64 s.r, .int .i64 s.c] 24)).call hb2)
       have HW1 := Aside0.mk k1.size
       have c1 := C1.out.cell 0
       have c2 := C2.out.cell 0
       have c2f := C2.out.frozen
       have c2l := C2.out.lt
       have hid := setCell_id C2.out 0 (.int .i64 (a : Int)) rfl
       simp only [List.getElem?_cons_zero] at c1 c2)
    | (refine ⟨trivial, ?_⟩; gi_at_call 58; (with_reducible refine (callsIn_wide.2 (hat _ K2.out)).mono ?_); rintro e w3 ⟨rfl, hb3⟩
       have D1 := Aside0.mk (C1.out.call hb3)
       have KA3 := Aside0.mk (KA2.out.call hb3)
       have D2 := Aside0.mk (C2.out.call hb3)
       have D4 := Aside0.mk (C4.out.call hb3)
       have d0 := D4.out.cell 0
       have d1 := D4.out.cell 1
       have d2 := D2.out.cell 0
       simp only [List.getElem?_cons_zero, List.getElem?_cons_succ] at d0 d1 d2
       have K3 := Aside0.mk (K2.out.call hb3)))
    refine bodyPost_ret (results_none rfl _ _ _) rfl ?_
    refine ⟨⟨_, rfl⟩, .inl ⟨[], ?_, abides_keep HJ.out H0.out K3.out⟩⟩
    unfold rpl; rw [HT.out]; rfl
  · have hta := HT.out
    have hrp : rpl s.l a = plc s.l a := by unfold rpl; rw [if_pos hta]
    have HRP := Aside0.mk hrp
    have hpl := plc_length s.l a
    have HPL := Aside0.mk hpl
    obtain ⟨L, hL⟩ : ∃ L, lenp s.l a = L := ⟨_, rfl⟩
    have HL := Aside0.mk hL
    have hLN := lenp_lt ha hta
    rw [hL] at hLN
    obtain ⟨N, hNe⟩ : ∃ N, s.l.length = N := ⟨_, rfl⟩
    have HN := Aside0.mk hNe
    rw [hNe] at ha hN hN1 hLN
    have HB0 := Aside0.mk (And.intro ha (And.intro hN (And.intro hN1 hLN)))
    have hw1' : ∀ V, Calls Try.prog 32 #[.agg #[.int .i64 s.r, .int .i64 s.c], .int .i64 ((a : Int) + 1)] V fun e w' => e = .returned (.int .i64 ((a + 1) % N : Nat)) ∧ Below V.heap.size V w' := fun V => by
      have := c_wrap s.r s.c ((a : Int) + 1) V
      rw [show ((a : Int) + 1) = ((a + 1 : Nat) : Int) by omega, wrp_nat ok, hNe] at this
      rw [show ((a : Int) + 1) = ((a + 1 : Nat) : Int) by omega]; exact this
    obtain ⟨u0, hu0⟩ : ∃ u0, (a + 1) % N = u0 := ⟨_, rfl⟩
    rw [hu0] at hw1'
    have HU0 := Aside0.mk hu0
    have a0 : (0 : Int) ≤ (a : Int) := by omega
    have a1 : (a : Int) ≤ 3564 := by omega
    have OK := Aside0.mk ok
    clear hrp hpl hL hta hNe hu0 hLN ha
    refine callsIn_of_wp Try.func164 rfl trivial ?_ rfl
    simp only [Try.ntmps164, List.size_toArray, List.length_cons, List.length_nil, Nat.reduceAdd, Nat.reduceSub, Array.replicate_succ, Array.replicate_zero, List.push_toArray, List.append_toArray, List.nil_append, List.cons_append]
    gi_wp2_with (first
    | (refine ⟨trivial, ?_⟩; gi_at_call 57; (with_reducible refine (callsIn_wide.2 hsz).mono ?_); rintro e w1 ⟨rfl, hb1⟩; have k1 := k0.call hb1
       have KA1 := Aside0.mk k1
       have A1 := Aside0.mk ((HB1.out.call hb1).alloc (.cells #[.int .i64 s.r, .int .i64 s.c] 24))
       have A2 := Aside0.mk ((HB2.out.call hb1).alloc (.cells #[.int .i64 s.r, .int .i64 s.c] 24))
       have A4 := Aside0.mk (Blk.new w1 [.int .i64 s.r, .int .i64 s.c] 24)
       have g2 := A2.out.cell 0
       simp only [List.getElem?_cons_zero] at g2)
    | (refine ⟨trivial, ?_⟩; gi_at_call 32; (with_reducible refine (callsIn_wide.2 (hwc _)).mono ?_); rintro e w2 ⟨rfl, hb2⟩
       have C1 := Aside0.mk (A1.out.call hb2)
       have KA2 := Aside0.mk (Keep.of_below hb2 [])
       have C2 := Aside0.mk (A2.out.call hb2)
       have C4 := Aside0.mk (A4.out.call hb2)
       have K2 := Aside0.mk ((k1.alloc (.cells #[.int .i64 s.r, .int .i64 s.c] 24)).call hb2)
       have HW1 := Aside0.mk k1.size
       have c1 := C1.out.cell 0
       have c2 := C2.out.cell 0
       have c2f := C2.out.frozen
       have c2l := C2.out.lt
       have hid := setCell_id C2.out 0 (.int .i64 (a : Int)) rfl
       simp only [List.getElem?_cons_zero] at c1 c2)
    | (refine ⟨trivial, ?_⟩; gi_at_call 58; (with_reducible refine (callsIn_wide.2 (hat _ K2.out)).mono ?_); rintro e w3 ⟨rfl, hb3⟩
       have D1 := Aside0.mk (C1.out.call hb3)
       have KA3 := Aside0.mk (KA2.out.call hb3)
       have D2 := Aside0.mk (C2.out.call hb3)
       have D4 := Aside0.mk (C4.out.call hb3)
       have d0 := D4.out.cell 0
       have d1 := D4.out.cell 1
       have d2 := D2.out.cell 0
       simp only [List.getElem?_cons_zero, List.getElem?_cons_succ] at d0 d1 d2
       have K3 := Aside0.mk (K2.out.call hb3))
    | (refine ⟨trivial, ?_⟩; gi_at_call 32; (with_reducible refine (callsIn_wide.2 (hw1' _)).mono ?_); rintro e w4 ⟨rfl, hb4⟩
       have E1 := Aside0.mk (D1.out.call hb4)
       have KA4 := Aside0.mk (KA3.out.call hb4)
       have E4 := Aside0.mk (D4.out.call hb4)
       have K4 := Aside0.mk (K3.out.call hb4)))
    clear hwc hw1' hat f60 hsz g2 c1 c2 c2f c2l hid hb2 hb3 hb4 d0 d1 e1 e2
    have HB := Aside0.mk hB
    have HW1s := Aside0.mk (show W.heap.size ≤ w1.heap.size from HW1.out)
    have hl41 : w1.heap.size < w4.heap.size := E4.out.lt
    have g4 := hS2.out.gkeep _ _ K4.out HGW.out.1
    have HSF4 : Aside0 (good w4 ∧ safe w4 B1 ∧ safe w4 w1.heap.size ∧ safe w4 p ∧ safe w4 b) := ⟨g4, hS2.out.keep _ _ _ K4.out HB1.out.lt HGW.out.2.1.1 HGW.out.1,
      hS2.out.keep _ _ _ KA4.out (by rw [World.size_alloc]; omega) (hS2.out.fresh _ _ (hS2.out.gkeep _ _ KA1.out HGW.out.1)) (hS2.out.gkeep _ _ ((KA1.out).alloc _) HGW.out.1),
      hS2.out.keep _ _ _ K4.out HGW.out.2.2.1 HGW.out.2.1.2.1 HGW.out.1, hS2.out.keep _ _ _ K4.out HGW.out.2.2.2 HGW.out.2.1.2.2 HGW.out.1⟩
    gi_loopw [5] (fun v5 wr => ∃ (k u : Nat) (s' : S), v5 = .int .i64 u ∧ Aside0 ((a + 1 + k) % N = u ∧ k ≤ L) ∧ Aside0 (PSp wr p b s' ∧ s'.ok ∧ Like s s') ∧ Aside0 (Blk wr B1 [.pointer (some ⟨p, 0, none⟩)] 61) ∧ Aside0 (Blk wr w1.heap.size [.int .i64 s.r, .int .i64 s.c] 24) ∧ Aside0 (J (plcTo s.l a k) wr) ∧ Aside0 (good wr ∧ safe wr B1 ∧ safe wr w1.heap.size ∧ safe wr p ∧ safe wr b))
      (fun v5 wr => N - ((intOf v5).toNat + N - a - 1) % N)
    case atStart => exact ⟨0, u0, s, rfl, ⟨by rw [Nat.add_zero]; exact HU0.out, Nat.zero_le _⟩, ⟨hs.keep K4.out (by simp) (by simp), OK.out, Like.refl _⟩, E1, E4, ⟨abides_keep HJ.out H0.out K4.out⟩, HSF4⟩
    case round =>
      obtain ⟨k, u, s', rfl, HU, HS', F1, F4, FJ, FS⟩ := hrel
      obtain ⟨hu, hkL⟩ := HU.out
      obtain ⟨hs', ok', hlk⟩ := HS'.out
      obtain ⟨z1, z2, z3, z4⟩ := hlk
      have huN : u < N := by rw [← hu]; exact Nat.mod_lt _ (by have := HB0.out; omega)
      have hat' : Calls Try.prog 58 #[.pointer (some ⟨p, 0, none⟩), .int .i64 u] wr fun e w' => e = .returned (s'.l.getD u C.zero).v ∧ Below wr.heap.size wr w' := by
        have := at_calls hs' ok' (u : Int)
        rw [S.get_self ok' (by rw [z3, HN.out]; exact huN)] at this; exact this
      obtain ⟨c', hc'⟩ : ∃ c', s'.l.getD u C.zero = c' := ⟨_, rfl⟩
      rw [hc'] at hat'
      have f60 : ∀ w, Sem.run Try.prog (Instr.field 60 (.agg #[.int .u8 c'.ch, .bool c'.at_, .int .u8 c'.fa, .int .u8 c'.hi, .int .u8 c'.co, .int .u8 c'.se]) 1) w = .ok (.bool c'.at_) w := fun _ => by kernel_rfl
      unfold C.v at hat'
      have hta' : c'.at_ = ata s.l u := by rw [← z4 u]; unfold ata; rw [hc']
      have hmk : (u + 1) % N = (a + 1 + (k + 1)) % N := by rw [← hu, Nat.mod_add_mod, Nat.add_assoc (a + 1) k 1]
      have hwr : ∀ V, Calls Try.prog 32 #[.agg #[.int .i64 s.r, .int .i64 s.c], .int .i64 ((u : Int) + 1)] V fun e w' => e = .returned (.int .i64 ((a + 1 + (k + 1)) % N : Nat)) ∧ Below V.heap.size V w' := fun V => by
        have := c_wrap s.r s.c ((u : Int) + 1) V
        rw [show ((u : Int) + 1) = ((u + 1 : Nat) : Int) by omega, wrp_nat OK.out, HN.out, hmk] at this
        rw [show ((u : Int) + 1) = ((u + 1 : Nat) : Int) by omega]
        exact this
      obtain ⟨u2, hu2e⟩ : ∃ u2, (a + 1 + (k + 1)) % N = u2 := ⟨_, rfl⟩
      rw [hu2e] at hwr
      have HU2 := Aside0.mk hu2e
      have u0' : (0 : Int) ≤ (u : Int) := by omega
      have u1' : (u : Int) ≤ 3564 := by have := HB0.out; omega
      have c1 := F1.out.cell 0
      simp only [List.getElem?_cons_zero] at c1
      have K0 : Keep [] wr wr := Keep.refl _ _
      have hne4 : w1.heap.size ≠ p ∧ w1.heap.size ≠ b := by
        have hW1 := HW1s.out
        have := HGW.out.2.2
        omega
      have HNE := Aside0.mk hne4
      have hlr : p < wr.heap.size ∧ b < wr.heap.size := by obtain ⟨_, _, _, x1, x2⟩ := id hs'; exact ⟨x1.lt, x2.lt⟩
      have HLR := Aside0.mk hlr
      obtain ⟨q', hq'⟩ : ∃ q', ata s.l u = q' := ⟨_, rfl⟩
      rw [hq'] at hta'
      rw [hta'] at hat' f60
      have HQ := Aside0.mk hq'
      clear hu hc' hta' hmk hu2e hne4 hlr hq' hs' ok' z1 z2 z3 z4
      cases q'
      · have hkl : k < L := by
          rcases Nat.lt_or_ge k L with h | h
          · exact h
          · have hy := lenp_yes (l := s.l) (a := a) (by rw [HN.out]; exact HB0.out.1) HT.out
            rw [HL.out, HN.out] at hy
            have : k = L := by omega
            rw [← this, HU.out.1, HQ.out] at hy; cases hy
        have hlen : (plcTo s.l a k).length < (rpl s.l a).length := by rw [HRP.out, HPL.out, HL.out, plcTo_length]; exact hkl
        have HLEN := Aside0.mk hlen
        clear hlen
        gi_wp2_with (refine ⟨trivial, ?_⟩; gi_at_call 58; (with_reducible refine (callsIn_wide.2 hat').mono ?_); rintro e w5 ⟨rfl, hb5⟩
                     have K5 := Aside0.mk (K0.call hb5)
                     go_loud (obtain ⟨fn, tmps, assign, body, hy, hR⟩ := HY.out _ (u : Int) w5 (abides_keep HJ.out FJ.out (K0.call hb5)) HLEN.out))
        clear hy hat' f60 c1 hkl
        refine hR.mono ?_
        rintro e W3 (⟨rfl, hJ3, hk3⟩ | ⟨rfl, hJx3⟩)
        · have k5 := K5.out
          have f1 := HS.out.keep _ _ _ k5 F1.out.lt FS.out.2.1 FS.out.1
          have f4 := HS.out.keep _ _ _ k5 F4.out.lt FS.out.2.2.1 FS.out.1
          have fp := HS.out.keep _ _ _ k5 HLR.out.1 FS.out.2.2.2.1 FS.out.1
          have fb := HS.out.keep _ _ _ k5 HLR.out.2 FS.out.2.2.2.2 FS.out.1
          have fg := HS.out.gkeep _ _ k5 FS.out.1
          have G1 := HS.out.blk _ _ _ _ _ hk3 HB.out.1 HB.out.2 f1 (F1.out.keep k5 (by simp))
          have G4 := HS.out.blk _ _ _ _ _ hk3 HNE.out.1 HNE.out.2 f4 (F4.out.keep k5 (by simp))
          obtain ⟨s3, hs3, ok3, lk3⟩ := HS.out.sp _ _ _ hk3 fp fb (HS'.out.1.keep k5 (by simp) (by simp)) HS'.out.2.1 HS'.out.2.2
          have l5 : p < w5.heap.size ∧ b < w5.heap.size := by have := HLR.out; have := k5.size; omega
          have FS3 := Aside0.mk (show good W3 ∧ safe W3 B1 ∧ safe W3 w1.heap.size ∧ safe W3 p ∧ safe W3 b from ⟨HS.out.gkp _ _ hk3 fg, HS.out.kp _ _ _ hk3 (F1.out.keep k5 (by simp)).lt f1, HS.out.kp _ _ _ hk3 (F4.out.keep k5 (by simp)).lt f4, HS.out.kp _ _ _ hk3 l5.1 fp, HS.out.kp _ _ _ hk3 l5.2 fb⟩)
          have hl3 : p < W3.heap.size ∧ b < W3.heap.size := by obtain ⟨_, _, _, x1, x2⟩ := id hs3; exact ⟨x1.lt, x2.lt⟩
          have HL3 := Aside0.mk hl3
          clear k5 f1 f4 fp fb fg l5 hl3
          have c4 := G4.cell 0
          have c5 := G4.cell 1
          simp only [List.getElem?_cons_zero, List.getElem?_cons_succ] at c4 c5
          have GG := Aside0.mk (And.intro G1 (And.intro G4 (And.intro hs3 (And.intro ok3 lk3))))
          have HJ3 := Aside0.mk hJ3
          clear G1 G4 hs3 ok3 lk3 hJ3 hk3
          gi_wp2_with (refine ⟨trivial, ?_⟩; gi_at_call 32; (with_reducible refine (callsIn_wide.2 (hwr _)).mono ?_); rintro e w6 ⟨rfl, hb6⟩
                       have HB6 := Aside0.mk hb6)
          go_roundw
          case rel =>
            refine ⟨k + 1, u2, s3, rfl, ⟨HU2.out, ?_⟩, ⟨GG.out.2.2.1.call HB6.out, GG.out.2.2.2.1, GG.out.2.2.2.2⟩, ⟨GG.out.1.call HB6.out⟩, ⟨GG.out.2.1.call HB6.out⟩, ⟨?_⟩, ?_⟩
            rotate_right
            · have k6 := Keep.of_below HB6.out []
              have q := FS3.out
              exact ⟨HS.out.gkeep _ _ k6 q.1, HS.out.keep _ _ _ k6 GG.out.1.lt q.2.1 q.1, HS.out.keep _ _ _ k6 GG.out.2.1.lt q.2.2.1 q.1, HS.out.keep _ _ _ k6 HL3.out.1 q.2.2.2.1 q.1, HS.out.keep _ _ _ k6 HL3.out.2 q.2.2.2.2 q.1⟩
            · have := HLEN.out
              rw [HRP.out, HPL.out, HL.out, plcTo_length] at this; omega
            · have hp := plcTo_succ s.l a k
              rw [HN.out, HU.out.1] at hp
              rw [hp]
              exact abides_keep HJ.out HJ3.out (Keep.of_below HB6.out [])
          case measure =>
            have h1 := HU.out
            have h2 := HU2.out
            have h3 := HB0.out
            have h4 := HLEN.out
            rw [HRP.out, HPL.out, HL.out, plcTo_length] at h4
            simp only [intOf, Int.toNat_natCast]
            have e1 := meas h3.1 (show k < N by omega) h1.1
            have e2 := meas h3.1 (show k + 1 < N by omega) h2
            rw [e1, e2]; omega
        · gi_wp2
          refine bodyPost_ret (results_none rfl _ _ _) rfl ?_
          refine ⟨⟨_, rfl⟩, .inr ⟨plcTo s.l a (k + 1), ?_, ?_⟩⟩
          · rw [HRP.out]
            unfold plc
            rw [HL.out]
            have := HLEN.out
            rw [HRP.out, HPL.out, HL.out, plcTo_length] at this
            exact plcTo_prefix _ _ (by omega)
          · have hp := plcTo_succ s.l a k
            rw [HN.out, HU.out.1] at hp
            rw [hp]; exact hJx3
      · have hkl : k = L := by
          rcases Nat.lt_or_ge k L with h | h
          · have := lenp_not (l := s.l) (a := a) (j := k) (by rw [HL.out]; exact h)
            rw [HN.out, HU.out.1, HQ.out] at this; cases this
          · omega
        have HKL := Aside0.mk hkl
        clear hkl
        gi_wp2_with (refine ⟨trivial, ?_⟩; gi_at_call 58; (with_reducible refine (callsIn_wide.2 hat').mono ?_); rintro e w5 ⟨rfl, hb5⟩
                     have K5 := Aside0.mk (K0.call hb5))
        go_end0
        refine ⟨⟨_, rfl⟩, .inl ⟨plcTo s.l a k, ?_, abides_keep HJ.out FJ.out K5.out⟩⟩
        rw [HRP.out]; unfold plc; rw [HL.out, HKL.out]

end Go.Proofs.Ytangandfgbnomaa.V
