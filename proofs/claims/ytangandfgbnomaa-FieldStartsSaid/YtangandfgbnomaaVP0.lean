/- Ranges over functions: what a round keeps; the contract of a field's places. -/
import Derived.Test.YtangandfgbnomaaVZ4
import Derived.RangeFuncNested
import Derived.RangeFuncBound
import Derived.RangeFuncCalls
import Derived.RangeFuncLeaves
import Derived.RangeFuncBox
import Derived.Shelf.Abstract
import Derived.Shelf.RegionOpen
import Derived.WalkKit
import Derived.OwnWalkIn
import Derived.TacticsInMore
import Derived.LoopNIn
import Derived.LoopIn
namespace Go.Proofs.Ytangandfgbnomaa.V
open Go.RowKit Go.Shelf
set_option linter.unusedVariables false
set_option linter.unusedSimpArgs false

attribute [local go_sem] Oper.semAt_some

/-- What a round may have written of cells: the blocks in R, and new ones. -/
structure KC (R : List Nat) (w w' : World) : Prop where
  size : w.heap.size ≤ w'.heap.size
  block : ∀ k o, k ∉ R → w.heap[k]? = some o → o.isCells = true → w'.heap[k]? = some o
theorem KC.refl (R : List Nat) (w : World) : KC R w w := ⟨Nat.le_refl _, fun _ _ _ h _ => h⟩
theorem KC.trans {R : List Nat} {a b c : World} (h : KC R a b) (k : KC R b c) : KC R a c := ⟨Nat.le_trans h.size k.size, fun i o hi ho hc => k.block i o hi (h.block i o hi ho hc) hc⟩
theorem Keep.kc {R : List Nat} {a b : World} (h : Keep R a b) : KC R a b := ⟨h.size, fun k o hk ho _ => h.heap ho hk⟩
theorem KC.blk {R : List Nat} {w w' : World} {b : Nat} {cs : List Value} {t : TypeId} (k : KC R w w') (h : Blk w b cs t) (hb : b ∉ R) : Blk w' b cs t := k.block b _ hb h rfl
theorem KC.psp {R : List Nat} {w w' : World} {p b : Nat} {s : S} (k : KC R w w') (h : PSp w p b s) (hp : p ∉ R) (hb : b ∉ R) : PSp w' p b s := by
  obtain ⟨cap, ex, h0, h1, h2⟩ := h; exact ⟨cap, ex, h0, k.blk h1 hp, k.blk h2 hb⟩
theorem KC.put {R : List Nat} {W : World} {l : Nat} {o o' : Obj} (h : W.heap[l]? = some o) (ho : o.isCells = false) : KC R W (W.putObj l o') :=
  ⟨by simp, fun k x _ hx hc => by
    by_cases e : k = l
    · subst e; rw [h] at hx; cases hx; rw [ho] at hc; cases hc
    · rw [World.putObj_heap_other e]; exact hx⟩
theorem kc_b {R : List Nat} {w : World} (W : World) (l : Nat) (o o' : Obj) (_ : w.heap.size ≤ l) (h : W.heap[l]? = some o) (ho : o.isCells = false) (_ : o.isWalk = false) : KC R W (W.putObj l o') := KC.put h ho
theorem Keep.keepsFrom {R : List Nat} {W W' : World} (B : Nat) (h : Keep R W W') (hc : ∀ r ∈ R, ∃ o, W.heap[r]? = some o ∧ o.isCells = true) : KeepsFrom B W W' :=
  ⟨h.size, fun k o _ hk ho => h.heap hk (fun hr => by obtain ⟨x, hx, hxc⟩ := hc k hr; rw [hk] at hx; cases hx; rw [ho] at hxc; cases hxc)⟩
theorem ownFrom_keep {β : Type} {R : List Nat} {w0 : World} {B : Nat} (hB : w0.heap.size ≤ B) : OwnFrom B (fun (_ : β) W => Keep R w0 W) :=
  fun _ X Y row hs hg hr => ⟨hg.os.trans hs.os, hg.tape.trans hs.tape, hg.output.trans hs.output, Nat.le_trans hs.size hg.size, fun k hk hn =>
    (hg.block k (Nat.lt_of_lt_of_le hk hs.size) (fun e => by have := (hr k e.symm).1; omega)).trans (hs.block k hk hn)⟩
theorem ownFrom_blk {β : Type} {B0 B : Nat} {f : β → List Value} {t : TypeId} : OwnFrom B0 (fun (x : β) W => Blk W B (f x) t) := by
  intro x X Y row hs hg hr
  refine (hg.block B hs.lt (fun e => ?_)).trans hs
  obtain ⟨_, o, ho, hc⟩ := hr B e.symm
  rw [show X.heap[B]? = _ from hs] at ho
  cases ho; cases hc
theorem Keep.putObj {R : List Nat} {w0 W : World} {l : Nat} {o : Obj} (h : Keep R w0 W) (hl : w0.heap.size ≤ l) : Keep R w0 (W.putObj l o) :=
  ⟨h.os, h.tape, h.output, by simpa using h.size, fun k hk hn => (World.putObj_heap_other (by omega)).trans (h.block k hk hn)⟩
theorem Blk.putObj {W : World} {b l : Nat} {cs : List Value} {t : TypeId} {o o' : Obj} (h : Blk W b cs t) (hl : W.heap[l]? = some o) (ho : o.isCells = false) : Blk (W.putObj l o') b cs t :=
  (KC.put (R := []) hl ho).blk h (by simp)

/-- A space that has the same size, and attributes at the same places. -/
def Like (s s' : S) : Prop := s'.r = s.r ∧ s'.c = s.c ∧ s'.l.length = s.l.length ∧ ∀ n, ata s'.l n = ata s.l n
theorem Like.refl (s : S) : Like s s := ⟨rfl, rfl, rfl, fun _ => rfl⟩
/-- What an iterator over a space asks of a round. -/
structure Serves (Kp : World → World → Prop) (p b : Nat) (R : List Nat) (s : S) : Prop where
  blk : ∀ W W' B cs t, Kp W W' → B ∉ R → B ≠ p → B ≠ b → Blk W B cs t → Blk W' B cs t
  sp : ∀ W W' s', Kp W W' → PSp W p b s' → s'.ok → Like s s' → ∃ s'', PSp W' p b s'' ∧ s''.ok ∧ Like s s''
theorem serves_kc {R : List Nat} {p b : Nat} (s : S) (hp : p ∉ R) (hb : b ∉ R) : Serves (KC R) p b R s :=
  ⟨fun W W' B cs t k h _ _ hB => k.blk hB h, fun W W' s' k hs ok hl => ⟨s', k.psp hs hp hb, ok, hl⟩⟩

theorem setCell_id {w : World} {B : Nat} {cs : List Value} {t : TypeId} (h : Blk w B cs t) (j : Nat) (v : Value) (hv : cs[j]? = some v) : w.setCell ⟨B, j, none⟩ v = w := by
  have e : cs.set j v = cs := by
    obtain ⟨hlt, hk⟩ := List.getElem?_eq_some_iff.1 hv
    rw [← hk]; exact List.set_getElem_self hlt
  have hh : (w.setCell ⟨B, j, none⟩ v).heap = w.heap := by
    apply Array.ext
    · simp [World.setCell]
    · intro i h1 h2
      by_cases ei : i = B
      · subst ei
        have h3 : (w.setCell ⟨i, j, none⟩ v).heap[i]? = some (.cells (cs.set j v).toArray t (0, 0)) := h.set j v
        have h4 : w.heap[i]? = some (.cells cs.toArray t (0, 0)) := h
        rw [e, ← h4, Array.getElem?_eq_getElem h1, Array.getElem?_eq_getElem h2] at h3
        exact Option.some.inj h3
      · have h3 := Below.heap_setCell w ⟨B, j, none⟩ v i ei
        rw [Array.getElem?_eq_getElem h1, Array.getElem?_eq_getElem h2] at h3
        exact Option.some.inj h3
  show ({ w with heap := (w.setCell ⟨B, j, none⟩ v).heap } : World) = w
  rw [hh]

theorem abides_keep {β : Type} {B : Nat} {J : β → World → Prop} (hJ : AbidesFrom B J) {x : β} {W W' : World} (h : J x W) (k : Keep [] W W') : J x W' :=
  hJ x W W' none h ⟨k.os, k.tape, k.output, k.size, fun i hi _ => k.block i hi (by simp)⟩ (fun r e => by cases e)

/-- What has come of a row. -/
theorem plcTo_prefix (l : List C) (a : Nat) {k n : Nat} (h : k ≤ n) : plcTo l a k <+: plcTo l a n := by
  unfold plcTo
  refine List.IsPrefix.map _ ?_
  exact ⟨(List.range (n - k)).map (k + ·), by rw [← List.range_add]; congr 1; omega⟩
theorem meas {N a k u : Nat} (ha : a < N) (hk : k < N) (hu : (a + 1 + k) % N = u) : (u + N - a - 1) % N = k := by
  rcases Nat.lt_or_ge (a + 1 + k) N with h | h
  · rw [Nat.mod_eq_of_lt h] at hu
    rw [show u + N - a - 1 = k + N by omega, Nat.add_mod_right, Nat.mod_eq_of_lt hk]
  · rw [Nat.mod_eq_sub_mod h, Nat.mod_eq_of_lt (by omega)] at hu
    rw [show u + N - a - 1 = k by omega, Nat.mod_eq_of_lt hk]
theorem wrp_nat {s : S} (ok : s.ok) (n : Nat) : wrp s.r s.c (n : Int) = (n % s.l.length : Nat) := by
  obtain ⟨hv, hl, _⟩ := ok
  unfold wrp
  rw [if_pos hv, ← hl, ← Int.natCast_emod]

set_option maxRecDepth 100000 in
set_option maxHeartbeats 2000000 in
/-- The places of a field, told by the program: wherever they are told from is a place. -/
theorem plc_stops {Kp : World → World → Prop} {R : List Nat} {w : World} {p b : Nat} {s : S} (hS : Serves Kp p b R s) (h : PSp w p b s) (ok : s.ok) {a : Nat} (ha : a < s.l.length) {B1 B2 : Nat}
    (h1 : Blk w B1 [.pointer (some ⟨p, 0, none⟩)] 61) (h2 : Blk w B2 [.int .i64 a] 3) (hB : (B1 ∉ R ∧ B1 ≠ p ∧ B1 ≠ b) ∧ (B2 ∉ R ∧ B2 ≠ p ∧ B2 ≠ b)) (hR : ∀ r ∈ R, r < w.heap.size) (n : Nat) (hn : 1 ≤ n) :
    SeqStopsK Fence.wide n Try.prog 164 #[.pointer (some ⟨B1, 0, none⟩), .pointer (some ⟨B2, 0, none⟩)] (fun x : Int => #[Value.int .i64 x]) Kp (fun ys => ys = rpl s.l a) (fun pre => pre <+: rpl s.l a) (rpl s.l a).length w := by
  intro l J Jx W hW hJ hJx hY h0
  have hs := h.keep (Keep.of_below hW []) (by simp) (by simp)
  have b1 := h1.call hW
  have b2 := h2.call hW
  have hRW : ∀ r ∈ R, r < W.heap.size := fun r hr => Nat.lt_of_lt_of_le (hR r hr) hW.size
  obtain ⟨_, _, hN, hN1⟩ := ok.ix 0
  have hsz := size_calls hs
  have hself : wrp s.r s.c (a : Int) = a := by rw [wrp_nat ok, Nat.mod_eq_of_lt ha]
  have hwc : ∀ V, Calls Try.prog 32 #[.agg #[.int .i64 s.r, .int .i64 s.c], .int .i64 a] V fun e w' => e = .returned (.int .i64 a) ∧ Below V.heap.size V w' := fun V => by have := c_wrap s.r s.c a V; rw [hself] at this; exact this
  have hat : ∀ V, Keep [] W V → Calls Try.prog 58 #[.pointer (some ⟨p, 0, none⟩), .int .i64 a] V fun e w' => e = .returned (s.l.getD a C.zero).v ∧ Below V.heap.size V w' := fun V k => by
    have := at_calls (hs.keep k (by simp) (by simp)) ok (a : Int)
    rw [S.get_self ok ha] at this; exact this
  obtain ⟨c, hc⟩ : ∃ c, s.l.getD a C.zero = c := ⟨_, rfl⟩
  rw [hc] at hat
  have f60 : ∀ w, Sem.run Try.prog (Instr.field 60 (.agg #[.int .u8 c.ch, .bool c.at_, .int .u8 c.fa, .int .u8 c.hi, .int .u8 c.co, .int .u8 c.se]) 1) w = .ok (.bool c.at_) w := fun _ => by kernel_rfl
  unfold C.v at hat
  obtain ⟨q, hq⟩ : ∃ q, c.at_ = q := ⟨_, rfl⟩
  rw [hq] at hat f60
  have hta : ata s.l a = q := by unfold ata; rw [hc, hq]
  have k0 : Keep [] W W := Keep.refl _ _
  have e1 := b1.cell 0
  have e2 := b2.cell 0
  simp only [List.getElem?_cons_zero] at e1 e2
  have HB1 := Aside0.mk b1
  have HB2 := Aside0.mk b2
  have HJ := Aside0.mk hJ
  have HY := Aside0.mk hY
  have H0 := Aside0.mk h0
  have HS := Aside0.mk hS
  have HT := Aside0.mk hta
  clear hS h h1 h2 b1 b2 hJ hJx hY h0 hq hc hself hta
  cases q
  · refine callsIn_of_wp Try.func164 rfl trivial ?_ rfl
    simp only [Try.ntmps164, List.size_toArray, List.length_cons, List.length_nil, Nat.reduceAdd, Nat.reduceSub, Array.replicate_succ, Array.replicate_zero, List.push_toArray, List.append_toArray, List.nil_append, List.cons_append]
    gi_wp2_with (first
    | (refine ⟨trivial, ?_⟩; gi_at_call 57; (with_reducible refine (callsIn_wide.2 hsz).mono ?_); rintro e w1 ⟨rfl, hb1⟩; have k1 := k0.call hb1
       have A1 := Aside0.mk ((HB1.out.call hb1).alloc (.cells #[.int .i64 s.r, .int .i64 s.c] 24))
       have A2 := Aside0.mk ((HB2.out.call hb1).alloc (.cells #[.int .i64 s.r, .int .i64 s.c] 24))
       have A4 := Aside0.mk (Blk.new w1 [.int .i64 s.r, .int .i64 s.c] 24)
       have g2 := A2.out.cell 0
       simp only [List.getElem?_cons_zero] at g2)
    | (refine ⟨trivial, ?_⟩; gi_at_call 32; (with_reducible refine (callsIn_wide.2 (hwc _)).mono ?_); rintro e w2 ⟨rfl, hb2⟩
       have C1 := Aside0.mk (A1.out.call hb2)
       have C2 := Aside0.mk (A2.out.call hb2)
       have C4 := Aside0.mk (A4.out.call hb2)
       have K2 := Aside0.mk ((k1.alloc (.cells #[.int .i64 s.r, .int .i64 s.c] 24)).call hb2)
       have HW1 := Aside0.mk k1.size
       have c1 := C1.out.cell 0
       have c2 := C2.out.cell 0
       have c2f := C2.out.frozen
       have c2l := C2.out.lt
       have hid := setCell_id C2.out 0 (.int .i64 (a : Int)) rfl
       simp only [List.getElem?_cons_zero] at c1 c2)
    | (refine ⟨trivial, ?_⟩; gi_at_call 58; (with_reducible refine (callsIn_wide.2 (hat _ K2.out)).mono ?_); rintro e w3 ⟨rfl, hb3⟩
       have D1 := Aside0.mk (C1.out.call hb3)
       have D2 := Aside0.mk (C2.out.call hb3)
       have D4 := Aside0.mk (C4.out.call hb3)
       have d0 := D4.out.cell 0
       have d1 := D4.out.cell 1
       have d2 := D2.out.cell 0
       simp only [List.getElem?_cons_zero, List.getElem?_cons_succ] at d0 d1 d2
       have K3 := Aside0.mk (K2.out.call hb3)))
    refine bodyPost_ret (results_none rfl _ _ _) rfl ?_
    refine ⟨⟨_, rfl⟩, .inl ⟨[], ?_, abides_keep HJ.out H0.out K3.out⟩⟩
    unfold rpl; rw [HT.out]; rfl
  · have hta := HT.out
    have hrp : rpl s.l a = plc s.l a := by unfold rpl; rw [if_pos hta]
    have HRP := Aside0.mk hrp
    have hpl := plc_length s.l a
    have HPL := Aside0.mk hpl
    obtain ⟨L, hL⟩ : ∃ L, lenp s.l a = L := ⟨_, rfl⟩
    have HL := Aside0.mk hL
    have hLN := lenp_lt ha hta
    rw [hL] at hLN
    obtain ⟨N, hNe⟩ : ∃ N, s.l.length = N := ⟨_, rfl⟩
    have HN := Aside0.mk hNe
    rw [hNe] at ha hN hN1 hLN
    have HB0 := Aside0.mk (And.intro ha (And.intro hN (And.intro hN1 hLN)))
    have hw1' : ∀ V, Calls Try.prog 32 #[.agg #[.int .i64 s.r, .int .i64 s.c], .int .i64 ((a : Int) + 1)] V fun e w' => e = .returned (.int .i64 ((a + 1) % N : Nat)) ∧ Below V.heap.size V w' := fun V => by
      have := c_wrap s.r s.c ((a : Int) + 1) V
      rw [show ((a : Int) + 1) = ((a + 1 : Nat) : Int) by omega, wrp_nat ok, hNe] at this
      rw [show ((a : Int) + 1) = ((a + 1 : Nat) : Int) by omega]; exact this
    obtain ⟨u0, hu0⟩ : ∃ u0, (a + 1) % N = u0 := ⟨_, rfl⟩
    rw [hu0] at hw1'
    have HU0 := Aside0.mk hu0
    have a0 : (0 : Int) ≤ (a : Int) := by omega
    have a1 : (a : Int) ≤ 3564 := by omega
    have OK := Aside0.mk ok
    have HRW := Aside0.mk hRW
    clear hrp hpl hL hta hNe hu0 hLN ha hRW
    refine callsIn_of_wp Try.func164 rfl trivial ?_ rfl
    simp only [Try.ntmps164, List.size_toArray, List.length_cons, List.length_nil, Nat.reduceAdd, Nat.reduceSub, Array.replicate_succ, Array.replicate_zero, List.push_toArray, List.append_toArray, List.nil_append, List.cons_append]
    gi_wp2_with (first
    | (refine ⟨trivial, ?_⟩; gi_at_call 57; (with_reducible refine (callsIn_wide.2 hsz).mono ?_); rintro e w1 ⟨rfl, hb1⟩; have k1 := k0.call hb1
       have A1 := Aside0.mk ((HB1.out.call hb1).alloc (.cells #[.int .i64 s.r, .int .i64 s.c] 24))
       have A2 := Aside0.mk ((HB2.out.call hb1).alloc (.cells #[.int .i64 s.r, .int .i64 s.c] 24))
       have A4 := Aside0.mk (Blk.new w1 [.int .i64 s.r, .int .i64 s.c] 24)
       have g2 := A2.out.cell 0
       simp only [List.getElem?_cons_zero] at g2)
    | (refine ⟨trivial, ?_⟩; gi_at_call 32; (with_reducible refine (callsIn_wide.2 (hwc _)).mono ?_); rintro e w2 ⟨rfl, hb2⟩
       have C1 := Aside0.mk (A1.out.call hb2)
       have C2 := Aside0.mk (A2.out.call hb2)
       have C4 := Aside0.mk (A4.out.call hb2)
       have K2 := Aside0.mk ((k1.alloc (.cells #[.int .i64 s.r, .int .i64 s.c] 24)).call hb2)
       have HW1 := Aside0.mk k1.size
       have c1 := C1.out.cell 0
       have c2 := C2.out.cell 0
       have c2f := C2.out.frozen
       have c2l := C2.out.lt
       have hid := setCell_id C2.out 0 (.int .i64 (a : Int)) rfl
       simp only [List.getElem?_cons_zero] at c1 c2)
    | (refine ⟨trivial, ?_⟩; gi_at_call 58; (with_reducible refine (callsIn_wide.2 (hat _ K2.out)).mono ?_); rintro e w3 ⟨rfl, hb3⟩
       have D1 := Aside0.mk (C1.out.call hb3)
       have D2 := Aside0.mk (C2.out.call hb3)
       have D4 := Aside0.mk (C4.out.call hb3)
       have d0 := D4.out.cell 0
       have d1 := D4.out.cell 1
       have d2 := D2.out.cell 0
       simp only [List.getElem?_cons_zero, List.getElem?_cons_succ] at d0 d1 d2
       have K3 := Aside0.mk (K2.out.call hb3))
    | (refine ⟨trivial, ?_⟩; gi_at_call 32; (with_reducible refine (callsIn_wide.2 (hw1' _)).mono ?_); rintro e w4 ⟨rfl, hb4⟩
       have E1 := Aside0.mk (D1.out.call hb4)
       have E4 := Aside0.mk (D4.out.call hb4)
       have K4 := Aside0.mk (K3.out.call hb4)))
    clear hwc hw1' hat f60 hsz g2 c1 c2 c2f c2l hid hb2 hb3 hb4 d0 d1 e1 e2
    have HB := Aside0.mk hB
    have HW1s := Aside0.mk (show W.heap.size ≤ w1.heap.size from HW1.out)
    gi_loopw [5] (fun v5 wr => ∃ (k u : Nat) (s' : S), v5 = .int .i64 u ∧ Aside0 ((a + 1 + k) % N = u ∧ k ≤ L) ∧ Aside0 (PSp wr p b s' ∧ s'.ok ∧ Like s s') ∧ Aside0 (Blk wr B1 [.pointer (some ⟨p, 0, none⟩)] 61) ∧ Aside0 (Blk wr w1.heap.size [.int .i64 s.r, .int .i64 s.c] 24) ∧ Aside0 (J (plcTo s.l a k) wr))
      (fun v5 wr => N - ((intOf v5).toNat + N - a - 1) % N)
    case atStart => exact ⟨0, u0, s, rfl, ⟨by rw [Nat.add_zero]; exact HU0.out, Nat.zero_le _⟩, ⟨hs.keep K4.out (by simp) (by simp), OK.out, Like.refl _⟩, E1, E4, ⟨abides_keep HJ.out H0.out K4.out⟩⟩
    case round =>
      obtain ⟨k, u, s', rfl, HU, HS', F1, F4, FJ⟩ := hrel
      obtain ⟨hu, hkL⟩ := HU.out
      obtain ⟨hs', ok', hlk⟩ := HS'.out
      obtain ⟨z1, z2, z3, z4⟩ := hlk
      have huN : u < N := by rw [← hu]; exact Nat.mod_lt _ (by have := HB0.out; omega)
      have hat' : Calls Try.prog 58 #[.pointer (some ⟨p, 0, none⟩), .int .i64 u] wr fun e w' => e = .returned (s'.l.getD u C.zero).v ∧ Below wr.heap.size wr w' := by
        have := at_calls hs' ok' (u : Int)
        rw [S.get_self ok' (by rw [z3, HN.out]; exact huN)] at this; exact this
      obtain ⟨c', hc'⟩ : ∃ c', s'.l.getD u C.zero = c' := ⟨_, rfl⟩
      rw [hc'] at hat'
      have f60 : ∀ w, Sem.run Try.prog (Instr.field 60 (.agg #[.int .u8 c'.ch, .bool c'.at_, .int .u8 c'.fa, .int .u8 c'.hi, .int .u8 c'.co, .int .u8 c'.se]) 1) w = .ok (.bool c'.at_) w := fun _ => by kernel_rfl
      unfold C.v at hat'
      have hta' : c'.at_ = ata s.l u := by rw [← z4 u]; unfold ata; rw [hc']
      have hmk : (u + 1) % N = (a + 1 + (k + 1)) % N := by rw [← hu, Nat.mod_add_mod, Nat.add_assoc (a + 1) k 1]
      have hwr : ∀ V, Calls Try.prog 32 #[.agg #[.int .i64 s.r, .int .i64 s.c], .int .i64 ((u : Int) + 1)] V fun e w' => e = .returned (.int .i64 ((a + 1 + (k + 1)) % N : Nat)) ∧ Below V.heap.size V w' := fun V => by
        have := c_wrap s.r s.c ((u : Int) + 1) V
        rw [show ((u : Int) + 1) = ((u + 1 : Nat) : Int) by omega, wrp_nat OK.out, HN.out, hmk] at this
        rw [show ((u : Int) + 1) = ((u + 1 : Nat) : Int) by omega]
        exact this
      obtain ⟨u2, hu2e⟩ : ∃ u2, (a + 1 + (k + 1)) % N = u2 := ⟨_, rfl⟩
      rw [hu2e] at hwr
      have HU2 := Aside0.mk hu2e
      have u0' : (0 : Int) ≤ (u : Int) := by omega
      have u1' : (u : Int) ≤ 3564 := by have := HB0.out; omega
      have c1 := F1.out.cell 0
      simp only [List.getElem?_cons_zero] at c1
      have K0 : Keep [] wr wr := Keep.refl _ _
      have hne4 : w1.heap.size ∉ R ∧ w1.heap.size ≠ p ∧ w1.heap.size ≠ b := by
        have hW1 := HW1s.out
        obtain ⟨_, _, _, x1, x2⟩ := hs
        have l1 := x1.lt
        have l2 := x2.lt
        exact ⟨fun hr => by have := HRW.out _ hr; omega, by omega, by omega⟩
      have HNE := Aside0.mk hne4
      obtain ⟨q', hq'⟩ : ∃ q', ata s.l u = q' := ⟨_, rfl⟩
      rw [hq'] at hta'
      rw [hta'] at hat' f60
      have HQ := Aside0.mk hq'
      clear hu hc' hta' hmk hu2e hne4 hq' hs' ok' z1 z2 z3 z4
      cases q'
      · have hkl : k < L := by
          rcases Nat.lt_or_ge k L with h | h
          · exact h
          · have hy := lenp_yes (l := s.l) (a := a) (by rw [HN.out]; exact HB0.out.1) HT.out
            rw [HL.out, HN.out] at hy
            have : k = L := by omega
            rw [← this, HU.out.1, HQ.out] at hy; cases hy
        have hlen : (plcTo s.l a k).length < (rpl s.l a).length := by rw [HRP.out, HPL.out, HL.out, plcTo_length]; exact hkl
        have HLEN := Aside0.mk hlen
        clear hlen
        gi_wp2_with (refine ⟨trivial, ?_⟩; gi_at_call 58; (with_reducible refine (callsIn_wide.2 hat').mono ?_); rintro e w5 ⟨rfl, hb5⟩
                     have K5 := Aside0.mk (K0.call hb5)
                     go_loud (obtain ⟨fn, tmps, assign, body, hy, hR⟩ := HY.out _ (u : Int) w5 (abides_keep HJ.out FJ.out (K0.call hb5)) HLEN.out))
        clear hy hat' f60 c1 hkl
        refine hR.mono ?_
        rintro e W3 (⟨rfl, hJ3, hk3⟩ | ⟨rfl, hJx3⟩)
        · have G1 := HS.out.blk _ _ _ _ _ hk3 HB.out.1.1 HB.out.1.2.1 HB.out.1.2.2 (F1.out.keep K5.out (by simp))
          have G4 := HS.out.blk _ _ _ _ _ hk3 HNE.out.1 HNE.out.2.1 HNE.out.2.2 (F4.out.keep K5.out (by simp))
          obtain ⟨s3, hs3, ok3, lk3⟩ := HS.out.sp _ _ _ hk3 (HS'.out.1.keep K5.out (by simp) (by simp)) HS'.out.2.1 HS'.out.2.2
          have c4 := G4.cell 0
          have c5 := G4.cell 1
          simp only [List.getElem?_cons_zero, List.getElem?_cons_succ] at c4 c5
          have GG := Aside0.mk (And.intro G1 (And.intro G4 (And.intro hs3 (And.intro ok3 lk3))))
          have HJ3 := Aside0.mk hJ3
          clear G1 G4 hs3 ok3 lk3 hJ3 hk3
          gi_wp2_with (refine ⟨trivial, ?_⟩; gi_at_call 32; (with_reducible refine (callsIn_wide.2 (hwr _)).mono ?_); rintro e w6 ⟨rfl, hb6⟩
                       have HB6 := Aside0.mk hb6)
          go_roundw
          case rel =>
            refine ⟨k + 1, u2, s3, rfl, ⟨HU2.out, ?_⟩, ⟨GG.out.2.2.1.call HB6.out, GG.out.2.2.2.1, GG.out.2.2.2.2⟩, ⟨GG.out.1.call HB6.out⟩, ⟨GG.out.2.1.call HB6.out⟩, ⟨?_⟩⟩
            · have := HLEN.out
              rw [HRP.out, HPL.out, HL.out, plcTo_length] at this; omega
            · have hp := plcTo_succ s.l a k
              rw [HN.out, HU.out.1] at hp
              rw [hp]
              exact abides_keep HJ.out HJ3.out (Keep.of_below HB6.out [])
          case measure =>
            have h1 := HU.out
            have h2 := HU2.out
            have h3 := HB0.out
            have h4 := HLEN.out
            rw [HRP.out, HPL.out, HL.out, plcTo_length] at h4
            simp only [intOf, Int.toNat_natCast]
            have e1 := meas h3.1 (show k < N by omega) h1.1
            have e2 := meas h3.1 (show k + 1 < N by omega) h2
            rw [e1, e2]; omega
        · gi_wp2
          refine bodyPost_ret (results_none rfl _ _ _) rfl ?_
          refine ⟨⟨_, rfl⟩, .inr ⟨plcTo s.l a (k + 1), ?_, ?_⟩⟩
          · rw [HRP.out]
            unfold plc
            rw [HL.out]
            have := HLEN.out
            rw [HRP.out, HPL.out, HL.out, plcTo_length] at this
            exact plcTo_prefix _ _ (by omega)
          · have hp := plcTo_succ s.l a k
            rw [HN.out, HU.out.1] at hp
            rw [hp]; exact hJx3
      · have hkl : k = L := by
          rcases Nat.lt_or_ge k L with h | h
          · have := lenp_not (l := s.l) (a := a) (j := k) (by rw [HL.out]; exact h)
            rw [HN.out, HU.out.1, HQ.out] at this; cases this
          · omega
        have HKL := Aside0.mk hkl
        clear hkl
        gi_wp2_with (refine ⟨trivial, ?_⟩; gi_at_call 58; (with_reducible refine (callsIn_wide.2 hat').mono ?_); rintro e w5 ⟨rfl, hb5⟩
                     have K5 := Aside0.mk (K0.call hb5))
        go_end0
        refine ⟨⟨_, rfl⟩, .inl ⟨plcTo s.l a k, ?_, abides_keep HJ.out FJ.out K5.out⟩⟩
        rw [HRP.out]; unfold plc; rw [HL.out, HKL.out]

end Go.Proofs.Ytangandfgbnomaa.V
